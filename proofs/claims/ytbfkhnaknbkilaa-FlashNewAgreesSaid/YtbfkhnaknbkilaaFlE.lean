/-
  A flash memory: contracts of Erase, New and Shape. No condition beyond those stated.
-/
import Derived.Test.YtbfkhnaknbkilaaFlP
namespace Go.Proofs.Ytbfkhnaknbkilaa.Fl
open Go Go.Ev Go.Proofs

/-- The first i pages erased. -/
def rowU (m : Nat) (r : List Pg) (i : Nat) : List Pg := (r.take i).map (eraT m) ++ r.drop i
theorem rowU_length (m : Nat) (r : List Pg) (i : Nat) : (rowU m r i).length = r.length := by simp [rowU]; omega
theorem rowU_get (m : Nat) {r : List Pg} {i : Nat} (hi : i < r.length) : (rowU m r i).getD i [] = r.getD i [] := by
  unfold rowU
  rw [List.getD_eq_getElem?_getD, List.getElem?_append_right (by simp; omega), List.length_map, List.length_take, Nat.min_eq_left (by omega), Nat.sub_self, List.getElem?_drop, Nat.add_zero, List.getD_eq_getElem?_getD]
theorem rowU_succ (m : Nat) {r : List Pg} {i : Nat} (hi : i < r.length) : (rowU m r i).set i (eraT m (r.getD i [])) = rowU m r (i + 1) := by
  unfold rowU
  have hl : ((r.take i).map (eraT m)).length = i := by simp; omega
  rw [List.set_append_right _ _ (by omega), hl, Nat.sub_self, List.drop_eq_getElem_cons hi, List.set_cons_zero, List.take_succ_eq_append_getElem hi, List.map_append, List.append_assoc, List.getD_eq_getElem?_getD, List.getElem?_eq_getElem hi]
  rfl
theorem rowU_full (m : Nat) (r : List Pg) : rowU m r r.length = r.map (eraT m) := by simp [rowU]
theorem zip_set {PB er : List Nat} {b : Nat} (hb : b < PB.length) (x : Nat) : (PB.zip er).set b (PB[b], x) = PB.zip (er.set b x) := by
  apply List.ext_getElem
  · simp
  · intro i h1 h2
    rw [List.getElem_set, List.getElem_zip, List.getElem_zip, List.getElem_set]
    by_cases h : b = i
    · subst h; rw [if_pos rfl, if_pos rfl]
    · rw [if_neg h, if_neg h]

section
variable {w : World} {Q : Value → World → Prop} {p : Nat} {s : Fs} {F : Nat → Prop}

theorem erase_k12 {b m : Nat} {res : Int} {bb : Nat} {PB : List Nat} (h : FkAt w p bb PB s) (hok : Ok s) (hbl : b < PB.length)
    (hQ : ∀ w', FkAt w' p bb PB (eraB s b m) → Ext w w' (· = PB[b]) → Q (.int .i64 res) w') :
    W.flash_Flash_Erase_k12 ⟨bb, b * 2, none⟩ res (m : Int) w Q := by
  have hb : b < s.nb := by rw [← h.lb]; exact hbl
  have hrl := hok.rowl hb
  have hp2 := hok.p2
  unfold W.flash_Flash_Erase_k12
  simp only [add_mk, Nat.add_zero]
  refine ldL h.b (by have := zip_get (np := s.np) hbl (show s.er.length = PB.length by rw [hok.le, h.lb]) 0 (by omega); rw [Nat.add_zero] at this; rw [this]; rfl) ?_
  have upd : ∀ r r' : List Pg, ({ ({ s with pg := s.pg.set b r } : Fs) with pg := ({ s with pg := s.pg.set b r } : Fs).pg.set b r' } : Fs) = { s with pg := s.pg.set b r' } := fun r r' => by
    show ({ s with pg := (s.pg.set b r).set b r' } : Fs) = _
    rw [List.set_set]
  have okr : ∀ i, Ok { s with pg := s.pg.set b (rowU m (s.pg.getD b []) i) } := fun i => hok.rows hb (by rw [rowU_length, hrl]) fun q hq => by
    unfold rowU at hq
    simp only [List.mem_append, List.mem_map] at hq
    rcases hq with ⟨x, _, rfl⟩ | hq
    · exact eraT_length m x
    · exact hok.l64 _ (hok.row hb) q (List.mem_of_mem_drop hq)
  refine LoopW.nat s.np (fun i x w' => x = ((i : Int), ()) ∧ FkAt w' p bb PB { s with pg := s.pg.set b (rowU m (s.pg.getD b []) i) } ∧ Ext w w' (· = PB[b])) ⟨rfl, ?_, Ext.refl _ _⟩ ?_
  · have : s.pg.set b (rowU m (s.pg.getD b []) 0) = s.pg := by
      unfold rowU
      simp only [List.take_zero, List.map_nil, List.nil_append, List.drop_zero]
      rw [List.getD_eq_getElem?_getD, List.getElem?_eq_getElem (by rw [hok.lp]; exact hb), Option.getD_some, List.set_getElem_self]
    rw [this]
    exact h
  rintro i x w1 next hi ⟨rfl, h1, e1⟩ hnext
  dsimp only
  by_cases hlt : i < s.np
  case neg =>
    rw [decide_eq_false (by omega), br_false]
    obtain rfl : i = s.np := by omega
    refine hQ w1 ?_ e1
    unfold eraB
    have hfull : rowU m (s.pg.getD b []) s.np = (s.pg.getD b []).map (eraT m) := by
      have := rowU_full m (s.pg.getD b [])
      rw [hrl] at this
      exact this
    rw [hfull] at h1
    exact h1
  rw [decide_eq_true (by omega), br_true]
  have hg := h1.g b hbl
  have hgr : ({ s with pg := s.pg.set b (rowU m (s.pg.getD b []) i) } : Fs).pg.getD b [] = rowU m (s.pg.getD b []) i := by
    show (s.pg.set b _).getD b [] = _
    rw [List.getD_eq_getElem?_getD, List.getElem?_set_self (by rw [hok.lp]; exact hb)]; rfl
  rw [hgr] at hg
  refine ixb i 1 9 hlt ?_
  refine ldT hg (by rw [Nat.mul_one]; exact strs_getD (by rw [rowU_length, hrl]; exact hlt)) ?_
  rw [rowU_get m (by rw [hrl]; exact hlt)]
  have hpl : ((s.pg.getD b []).getD i []).length = 64 := hok.pagel hb hlt
  have hset := rowU_succ m (r := s.pg.getD b []) (by rw [hrl]; exact hlt)
  generalize (s.pg.getD b []).getD i [] = o at *
  refine str_bs 5 fun cb cc w2 hcb s2 e2 => fs ?_
  rw [hpl] at s2 ⊢
  have h2 := h1.ext e2 (fun h => h) (fun h => h) (fun _ _ h => h)
  refine LoopW.nat 64 (fun j x w' => x = ((j : Int), ()) ∧ Sl w' 5 1 (some ⟨cb, 0, none⟩) 64 cc (by_ ((List.range 64).map fun i => if i < j then (o.getD i 0 ||| sel m i) else o.getD i 0)) ∧ Ext w2 w' (· = cb)) ⟨rfl, by rw [upto_zero hpl]; exact s2, Ext.refl _ _⟩ ?_
  rintro j x w3 nxt hj ⟨rfl, s3, e3⟩ hnxt
  dsimp only
  by_cases hjl : j < 64
  case neg =>
    rw [decide_eq_false (by omega), br_false]
    obtain rfl : j = 64 := by omega
    rw [upto_full] at s3
    change Sl w3 _ 1 _ 64 cc (by_ (eraT m o)) at s3
    have h3 := h2.ext e3 (fun hx => by have := h1.d.lt; omega) (fun hx => by have := h1.b.lt; omega) (fun b' hb' hx => by
      obtain ⟨i', hi', rfl⟩ := List.getElem_of_mem hb'
      have := (h1.g i' hi').lt
      omega)
    unfold W.flash_Flash_Erase_k21
    simp only [add_mk, Nat.add_zero]
    have h3' := h3.ext (Ext.refl w3 (fun _ => False)).drew_ (fun h => h) (fun h => h) (fun _ _ h => h)
    refine ⟨fun w' => At w' bb ((PB.zip s.er).flatMap (brow s.np)) 65, h3'.b, ?_⟩
    refine ldS_i (fun w h => h) (by have := zip_get (np := s.np) hbl (show s.er.length = PB.length by rw [hok.le, h.lb]) 0 (by omega); rw [Nat.add_zero] at this; rw [this]; rfl) (fs ?_)
    refine slT (w := drew w3) (l := eraT m o) s3 (eraT_length _ _) ⟨h3'.b, ?_⟩
    refine ixbS i 1 9 hlt ?_
    have hg3 := h3'.g b hbl
    rw [hgr] at hg3
    refine st_i hg3 (by rw [strs_length, rowU_length, hrl]; omega) fun w4 a4 e4 z4 => ?_
    rw [strs_set, Nat.mul_one, hset] at a4
    have h4 := h3'.pages (okr i) hbl a4 e4
    rw [upd] at h4
    refine ⟨h4.b, ?_⟩
    rw [inc_nat (by omega)]
    have e13 : Ext w1 w3 (fun _ => False) := e2.trans e3 (fun _ _ h => h) (fun b' hb' hx => by omega)
    exact hnext hlt _ _ ⟨rfl, h4, (e1.tr0 e13.drew_).tr e4⟩
  rw [decide_eq_true (by omega), br_true]
  have hold := upto_get o (fun i => o.getD i 0 ||| sel m i) hjl
  have hI : Sl (drew w3) 5 1 (some ⟨cb, 0, none⟩) 64 cc (by_ ((List.range 64).map fun i => if i < j then (o.getD i 0 ||| sel m i) else o.getD i 0)) ∧ Ext w2 (drew w3) (· = cb) := ⟨s3, e3.drew_⟩
  generalize drew w3 = wd at *
  have ldc : ∀ K : Int → Prop, K ((o.getD j 0).toNat : Int) → ld Try.prog 5 ⟨cb, j * 1, none⟩ wd fun v => fI .u8 v K := fun K hK =>
    slL hI.1 (by rw [Nat.mul_one, by_get, ← hold, List.getD_eq_getElem?_getD, List.getElem?_eq_getElem (by simpa using hjl)]; rfl) (fi hK)
  have fin : st Try.prog 5 ⟨cb, j * 1, none⟩ (.int .u8 (bor .u8 ((o.getD j 0).toNat : Int) ((sel m j).toNat : Int))) wd fun w' => True ∧ nxt ((IntKind.wrap .i64 ((j : Int) + 1)), ()) w' := by
    rw [or8]
    refine slS hI.1 (by rw [by_length]; simp; omega) fun w4 s4 e4 z4 => ⟨trivial, ?_⟩
    rw [by_set, Nat.mul_one] at s4
    rw [inc_nat (by omega)]
    refine hnxt hjl _ _ ⟨rfl, ?_, hI.2.tr e4⟩
    rw [upto_succ]
    exact s4
  refine ⟨fun _ => True, trivial, ?_⟩
  refine ixbS j 1 5 (by omega) ?_
  repeat' first
    | exact trivial
    | exact fin
    | refine ldc _ ?_
    | refine selected_c (fi ?_)
    | refine ixbS j 1 5 (by omega) ?_
    | refine And.intro ?_ ?_

theorem erase_c {b : Int} (h : Fk w p s F) (hok : Ok s) (hQ : ∀ w', Fk w' p (era s b).1 F → Ext w w' F → Q (.int .i64 (era s b).2) w') :
    CallE Try.prog 22 #[.pointer (some ⟨p, 0, none⟩), .int .i64 b] w Q := by
  apply C.flash_Flash_Erase
  unfold W.flash_Flash_Erase
  simp only [add_mk, Nat.zero_add]
  have h' := h
  unfold era at hQ
  refine isBlock_c h (fb ?_)
  cases hp : isB s b with
  | false =>
    rw [if_pos hp] at hQ
    rw [Bool.not_false, br_true]
    exact hQ w h' (Ext.refl _ _)
  | true =>
    rw [if_neg (by simp [hp])] at hQ
    rw [Bool.not_true, br_false]
    obtain ⟨hb0, hb1⟩ := isB_lt hp
    obtain ⟨bb, PB, h, f1, f2, f3⟩ := h
    refine ldB h.d rfl ?_
    refine br_of (fun ho => ?_) (fun ho => ?_)
    · rw [if_pos ho] at hQ
      exact hQ w h' (Ext.refl _ _)
    rw [if_neg (by simp [ho])] at hQ
    obtain ⟨b, rfl⟩ := nat_of hb0
    rw [Int.toNat_natCast] at hb1 hQ
    have hbl : b < PB.length := by rw [h.lb]; exact hb1
    have hel : s.er.length = PB.length := by rw [hok.le, h.lb]
    have hm := List.getElem_mem hbl
    refine ldL h.d rfl ?_
    refine ixb b 2 65 hb1 ?_
    simp only [add_mk]
    show dr w _
    unfold dr
    refine ldI (w := drew w) h.b (by rw [zip_get hbl hel _ 1 (by omega)]; rfl) ?_
    refine ldI (w := drew w) h.d rfl ?_
    by_cases hge : s.en ≤ s.er.getD b 0
    · rw [if_pos hge] at hQ
      rw [decide_eq_true (by omega), br_true]
      exact hQ (drew w) (h'.ext (Ext.refl w (fun _ => False)).drew_ (fun _ _ h => h)) (Ext.refl w F).drew_
    rw [if_neg hge] at hQ
    rw [decide_eq_false (by omega), br_false]
    refine ldI (w := drew w) h.b (by rw [zip_get hbl hel _ 1 (by omega)]; rfl) ?_
    have he2 := hok.e2
    rw [inc_nat (by omega)]
    refine st_i (w := drew w) h.b (by rw [flat_length (f := brow s.np) (m := 2) (fun _ => rfl), List.length_zip]; omega) fun w1 a1 e1 z1 => ?_
    have hrow : ((PB.zip s.er).flatMap (brow s.np)).set (b * 2 + 1) (.int .i64 ((s.er.getD b 0 + 1 : Nat) : Int)) = (PB.zip (s.er.set b (s.er.getD b 0 + 1))).flatMap (brow s.np) := by
      have hz : b < (PB.zip s.er).length := by rw [List.length_zip]; omega
      rw [flat_set (f := brow s.np) (m := 2) (fun _ => rfl) _ (PB[b], s.er.getD b 0 + 1) _ b 1 hz (by omega) (by rw [List.getElem_zip]; rfl), zip_set hbl]
    rw [hrow] at a1
    have hok1 := hok.more (b := b) (by omega)
    have h1 : FkAt w1 p bb PB { s with er := s.er.set b (s.er.getD b 0 + 1) } :=
      ⟨At.ext (w := drew w) h.d e1 h.n1, a1, h.lb, fun i hi => At.ext (w := drew w) (h.g i hi) e1 (fun hx => h.n3 (hx ▸ List.getElem_mem hi)), h.n1, h.n2, h.n3, h.nd⟩
    have e01 : Ext w w1 F := e1.of_drew.mono fun b' _ hx => hx ▸ f2
    generalize hs1 : ({ s with er := s.er.set b (s.er.getD b 0 + 1) } : Fs) = s1 at *
    have htorn : s1.torn = s.torn := by rw [← hs1]
    refine interrupted_c h1.d hok1.lf fun w2 a2 e2 z2 => fb ?_
    obtain ⟨i1, i2, i3, i4, i5, i6⟩ := intr_nb s1
    have h2 := h1.head a2 e2 i1 i2 i4 i5
    have e02 : Ext w w2 F := e01.tr (e2.mono fun b' _ hx => hx ▸ f1)
    cases hi : (intr s1).2 with
    | true =>
      rw [hi] at hQ
      rw [br_true]
      dsimp only
      refine ldI (w := drew w2) a2 (x := ((s.torn : Nat) : Int)) (by rw [← htorn, ← i6]; rfl) ?_
      have h2' := h2.ext (Ext.refl w2 (fun _ => False)).drew_ (fun h => h) (fun h => h) (fun _ _ h => h)
      refine erase_k12 h2' hok1.intr hbl fun w3 h3 e3 => ?_
      exact hQ w3 ⟨bb, PB, h3, f1, f2, f3⟩ (e02.tr (e3.of_drew.mono fun b' _ hx => hx ▸ f3 _ hm))
    | false =>
      rw [hi] at hQ
      rw [br_false]
      refine erase_k12 (m := full) h2 hok1.intr hbl fun w3 h3 e3 => ?_
      exact hQ w3 ⟨bb, PB, h3, f1, f2, f3⟩ (e02.tr (e3.mono fun b' _ hx => hx ▸ f3 _ hm))

/-- slices.Repeat of one string -/
theorem repeatS_c {xb n : Nat} {d : Pg} {T : TypeId} (h : At w xb [.string (mkS d)] T) (h1 : 1 ≤ n) (h2 : n ≤ 32)
    (hQ : ∀ b w', At w' b (strs (List.replicate n d)) 9 → w.heap.size ≤ b → Ext w w' (fun _ => False) → Q (.slice (some ⟨b, 0, none⟩) n n) w') :
    CallE Try.prog 27 #[.slice (some ⟨xb, 0, none⟩) 1 1, .int .i64 (n : Int)] w Q := by
  apply C.slices_Repeat___string_string_
  unfold W.slices_Repeat___string_string_
  rw [decide_eq_false (by omega), br_false]
  unfold W.slices_Repeat___string_string__k3
  rw [wrap_u64 (by omega) (by omega), wrap_u64 (by omega) (by omega)]
  refine Calls.mono (Try.bits_Mul 1 n (by omega) (by omega) w) ?_
  rintro en w' ⟨rfl, hw⟩
  have hw := hw.symm
  subst hw
  refine ⟨_, rfl, _, _, rfl, ?_⟩
  rw [show ((1 * n / 18446744073709551616 : Nat) : Int) = 0 by rw [Nat.one_mul, Nat.div_eq_of_lt (by omega)]; rfl, show ((1 * n % 18446744073709551616 : Nat) : Int) = (n : Int) by rw [Nat.one_mul, Nat.mod_eq_of_lt (by omega)]]
  rw [decide_eq_false (by omega), br_false, decide_eq_false (by omega)]
  unfold W.slices_Repeat___string_string__k5
  rw [br_false]
  unfold W.slices_Repeat___string_string__k6
  rw [wrap_nat (by omega)]
  refine mk_i 9 1 (by omega) (by omega) fun b w1 hb a1 e1 z1 => fs ?_
  rw [Int.toNat_natCast] at *
  have hz : zeroL Try.prog 9 = [.string (mkS [])] := by kernel_rfl
  rw [hz, zeros_one, show List.replicate n (Value.string (mkS [])) = strs (List.replicate n []) by simp [strs]] at a1
  have hx1 := h.ext e1 (fun h => h)
  refine cp_at 9 1 (vs := strs [d]) a1 (.inr ⟨_, rfl, fun j hj => by rw [add_mk, hx1.cell, Nat.zero_add]; rfl⟩) (by rw [Nat.min_eq_left (by omega)]; rfl) (by rw [strs_length, strs_length, List.length_replicate]; show 0 + 1 ≤ n; omega) (strs_one _) fun w2 a2 e2 z2 => fi ?_
  have hpart : ∀ j k, j ≤ k → j + k ≤ n + k → splice (strs (List.replicate j d ++ List.replicate (n - j) [])) j (strs (List.replicate (min (n - j) j) d)) = strs (List.replicate (j + min (n - j) j) d ++ List.replicate (n - (j + min (n - j) j)) []) := by
    intro j k _ hjn
    have hl : j + (strs (List.replicate (min (n - j) j) d)).length ≤ (strs (List.replicate j d ++ List.replicate (n - j) [])).length := by
      rw [strs_length, strs_length]
      simp only [List.length_replicate, List.length_append]
      omega
    rw [splice_eq _ _ _ hl]
    unfold strs
    rw [← List.map_take, ← List.map_drop, ← List.map_append, ← List.map_append]
    congr 1
    rw [List.length_map, List.length_replicate, List.take_left' (by simp), List.drop_append, List.length_replicate, List.drop_of_length_le (by simp), List.nil_append, List.drop_replicate, List.replicate_append_replicate]
    congr 2
    omega
  have e02 : Ext w w2 (fun _ => False) := e1.trans e2 (fun _ _ h => h) (fun b' hb' hx => by omega)
  have a2' : At w2 b (strs (List.replicate 1 d ++ List.replicate (n - 1) [])) 9 := by
    have hs : splice (strs (List.replicate n [])) 0 (strs [d]) = strs (List.replicate 1 d ++ List.replicate (n - 1) []) := by
      rw [splice_eq _ _ _ (by rw [strs_length, strs_length, List.length_replicate]; show 0 + 1 ≤ n; omega)]
      unfold strs
      simp
    rw [← hs]
    exact a2
  refine ⟨fun m x w' => ∃ j : Nat, x = ((j : Int), ()) ∧ 1 ≤ j ∧ j + m = n ∧ At w' b (strs (List.replicate j d ++ List.replicate (n - j) [])) 9 ∧ Ext w w' (fun _ => False), n - 1, ⟨1, by rw [Nat.min_eq_left (by omega)], by omega, by omega, a2', e02⟩, ?_⟩
  rintro m x w3 ⟨j, rfl, hj1, hjm, a3, e3⟩
  dsimp only
  by_cases hlt : j < n
  case neg =>
    rw [decide_eq_false (by omega), br_false]
    obtain rfl : j = n := by omega
    rw [Nat.sub_self, List.replicate_zero, List.append_nil] at a3
    exact hQ b w3 a3 (by omega) e3
  rw [decide_eq_true (by omega), br_true]
  refine ⟨fun _ => True, trivial, ?_⟩
  refine qSL (sl_from 9 1 (by omega) (by omega)) ?_
  refine qSL (sl_to 9 (by omega)) ?_
  rw [add_mk, Nat.zero_add, Nat.mul_one]
  have hr : Reads (drew w3) (some ⟨b, 0, none⟩) (strs (List.replicate (min (n - j) j) d)) := by
    refine .inr ⟨_, rfl, fun i hi => ?_⟩
    rw [strs_length, List.length_replicate] at hi
    rw [add_mk, At.cell (w := drew w3) a3, Nat.zero_add, strs_get, strs_get, List.getElem?_append_left (by simp; omega), List.getElem?_replicate, List.getElem?_replicate, if_pos (by omega), if_pos hi]
  refine cp_at (w := drew w3) 9 1 (vs := strs (List.replicate (min (n - j) j) d)) a3 hr (by rw [strs_length, List.length_replicate, Nat.mul_one, Nat.min_comm]) (by rw [strs_length, strs_length]; simp only [List.length_replicate, List.length_append]; omega) (strs_one _) fun w4 a4 e4 z4 => fi ⟨trivial, ?_⟩
  rw [hpart j n (by omega) (by omega)] at a4
  rw [show (j : Int) + ((min j (n - j) : Nat) : Int) = ((j + min (n - j) j : Nat) : Int) by rw [Nat.min_comm]; push_cast; rfl, wrap_nat (by omega)]
  exact ⟨n - (j + min (n - j) j), by omega, j + min (n - j) j, rfl, by omega, by omega, a4, e3.trans e4.of_drew (fun _ _ h => h) (fun b' hb' hx => by omega)⟩

theorem new_bad {b q n : Int} (h : b < 1 ∨ b > 32 ∨ q < 1 ∨ q > 32 ∨ n < 0 ∨ n > 1048576) (hQ : ∀ w', Ext w w' (fun _ => False) → Q (.tuple #[.pointer none, .int .i64 1]) w') : CallE Try.prog 8 #[.agg #[.int .i64 b, .int .i64 q, .int .i64 n]] w Q := by
  apply C.flash_New
  unfold W.flash_New
  refine al_i fun xb w1 hxb a1 e1 z1 => ?_
  simp only [add_mk, Nat.zero_add]
  have fin := hQ w1 e1
  refine ldI a1 rfl ?_
  refine br_of (fun _ => fin) (fun h1 => ?_)
  refine ldI a1 rfl ?_
  refine br_of (fun _ => fin) (fun h2 => ?_)
  refine ldI a1 rfl ?_
  refine br_of (fun _ => fin) (fun h3 => ?_)
  refine ldI a1 rfl ?_
  refine br_of (fun _ => fin) (fun h4 => ?_)
  refine ldI a1 rfl ?_
  refine br_of (fun _ => fin) (fun h5 => ?_)
  refine ldI a1 rfl ?_
  refine br_of (fun _ => fin) (fun h6 => ?_)
  simp only [decide_eq_false_iff_not] at h1 h2 h3 h4 h5 h6
  omega

theorem new_c {nb np en : Nat} (h1 : 1 ≤ nb) (h2 : nb ≤ 32) (h3 : 1 ≤ np) (h4 : np ≤ 32) (h5 : en ≤ 1048576) (hQ : ∀ p w', Fk w' p (new nb np en) (fun b => w.heap.size ≤ b) → Ext w w' (fun _ => False) → Q (.tuple #[.pointer (some ⟨p, 0, none⟩), .int .i64 0]) w') :
    CallE Try.prog 8 #[.agg #[.int .i64 (nb : Int), .int .i64 (np : Int), .int .i64 (en : Int)]] w Q := by
  apply C.flash_New
  unfold W.flash_New
  refine al_i fun xb w1 hxb a1 e1 z1 => ?_
  simp only [add_mk, Nat.zero_add]
  refine ldI a1 rfl ?_
  rw [decide_eq_false (by omega), br_false]
  refine ldI a1 rfl ?_
  rw [decide_eq_false (by omega), br_false]
  refine ldI a1 rfl ?_
  rw [decide_eq_false (by omega), br_false]
  refine ldI a1 rfl ?_
  rw [decide_eq_false (by omega), br_false]
  refine ldI a1 rfl ?_
  rw [decide_eq_false (by omega), br_false]
  refine ldI a1 rfl ?_
  rw [decide_eq_false (by omega), br_false]
  refine ⟨fun w' => At w' xb [.int .i64 (nb : Int), .int .i64 (np : Int), .int .i64 (en : Int)] 23, a1, ?_⟩
  refine ldS_g (fun w h => h) (fg ?_)
  refine ldS_i (fun w h => h) rfl (fi ?_)
  refine mk_i 65 2 (by omega) (by omega) fun bb w2 hbb a2 e2 z2 => fs ?_
  rw [Int.toNat_natCast] at *
  have ax2 := At.ext (w := drew w1) a1 e2 (fun h => h)
  refine ⟨ax2, ?_⟩
  refine rqS_r (fun w => run_of_peel (v := Value.agg #[.int .i64 (nb : Int), .int .i64 (np : Int), .int .i64 (en : Int), .slice (some ⟨bb, 0, none⟩) nb nb, .bool false, .bool false, .int .i64 0, .int .u64 0]) (by kernel_rfl) w) (fg ?_)
  refine al_i fun p w3 hp a3 e3 z3 => ?_
  have ax3 := ax2.ext e3 (fun h => h)
  refine ⟨ax3, ?_⟩
  simp only [add_mk, Nat.zero_add]
  refine repeat_c (x := 255) (n := 64) (by omega) fun w4 e4 => ft ?_
  have a34 := a3.ext e4 (fun h => h)
  refine ldL a34 rfl ?_
  have hzb : zeroL Try.prog 65 = [.slice none 0 0, .int .i64 0] := by kernel_rfl
  rw [hzb] at a2
  have hw1 : (drew w1).heap.size = w.heap.size + 1 := z1
  have hpb : p ≠ bb := by omega
  have ax4 := ax3.ext e4 (fun h => h)
  have e24 : Ext w w4 (fun _ => False) := ((e1.tr e2.of_drew).tr e3).tr e4
  refine LoopW.nat nb (fun i x w' => x = ((i : Int), ()) ∧ ∃ PB : List Nat, PB.length = i ∧ At w' bb (PB.flatMap (fun b => brow np (b, 0)) ++ zeros [.slice none 0 0, .int .i64 0] (nb - i)) 65 ∧ At w' xb [.int .i64 (nb : Int), .int .i64 (np : Int), .int .i64 (en : Int)] 23 ∧ At w' p (fkc (new nb np en) bb) 60 ∧ (∀ b ∈ PB, At w' b (strs (List.replicate np ff)) 9 ∧ b ≠ p ∧ b ≠ bb ∧ b ≠ xb ∧ w.heap.size ≤ b) ∧ PB.Nodup ∧ Ext w w' (fun _ => False))
    ⟨rfl, [], rfl, by rw [List.flatMap_nil, List.nil_append, Nat.sub_zero]; exact (a2.ext e3 (fun h => h)).ext e4 (fun h => h), ax4, a34, by simp, by simp, e24⟩ ?_
  rintro i x w5 next hi ⟨rfl, PB, hPl, b5, x5, d5, g5, nd5, e5⟩ hnext
  dsimp only
  by_cases hlt : i < nb
  case neg =>
    rw [decide_eq_false (by omega), br_false]
    obtain rfl : i = nb := by omega
    refine hQ p w5 ⟨bb, PB, ⟨d5, ?_, hPl, fun j hj => ?_, hpb, fun hx => (g5 p hx).2.1 rfl, fun hx => (g5 bb hx).2.2.1 rfl, nd5⟩, by show w.heap.size ≤ p; omega, by show w.heap.size ≤ bb; omega, fun b hb => (g5 b hb).2.2.2.2⟩ e5
    · have hz0 : zeros [.slice none 0 0, .int .i64 0] (i - i) = [] := by rw [Nat.sub_self]; rfl
      rw [hz0, List.append_nil] at b5
      have : (PB.zip (new i np en).er).flatMap (brow np) = PB.flatMap (fun b => brow np (b, 0)) := by
        have hzip : PB.zip (List.replicate i 0) = PB.map fun b => (b, 0) := by
          apply List.ext_getElem
          · simp [hPl]
          · intro j h1 h2
            simp
        show (PB.zip (List.replicate i 0)).flatMap _ = _
        rw [hzip, List.flatMap_map]
      show At w5 bb ((PB.zip (new i np en).er).flatMap (brow np)) _
      rw [this]
      exact b5
    · have : (new i np en).pg.getD j [] = List.replicate np ff := by
        show (List.replicate i (List.replicate np ff)).getD j [] = _
        rw [List.getD_eq_getElem?_getD, List.getElem?_replicate, if_pos (by omega)]; rfl
      rw [this]
      exact (g5 _ (List.getElem_mem hj)).1
  rw [decide_eq_true (by omega), br_true]
  refine ⟨fun w' => At w' p (fkc (new nb np en) bb) 60 ∧ At w' xb [.int .i64 (nb : Int), .int .i64 (np : Int), .int .i64 (en : Int)] 23, ⟨d5, x5⟩, ?_⟩
  refine ldS_i (fun w h => h.1) rfl (fs ?_)
  refine ldS_i (fun w h => h.2) rfl (fi ?_)
  refine al_i fun sb w6 hsb a6 e6 z6 => ?_
  have d6 := At.ext (w := drew w5) d5 e6 (fun h => h)
  have x6 := At.ext (w := drew w5) x5 e6 (fun h => h)
  refine ⟨⟨d6, x6⟩, ?_⟩
  refine repeatS_c (d := ff) a6 h3 h4 fun gb w7 a7 hgb e7 => fs ?_
  have d7 := d6.ext e7 (fun h => h)
  have x7 := x6.ext e7 (fun h => h)
  refine ⟨⟨d7, x7⟩, ?_⟩
  refine ixbS i 2 65 (by show i < nb; exact hlt) ?_
  simp only [add_mk, Nat.add_zero]
  have e57 : Ext w5 w7 (fun _ => False) := e6.of_drew.tr e7
  have b7 := b5.ext e57 (fun h => h)
  have hfl : (PB.flatMap (fun b => brow np (b, 0))).length = i * 2 := by rw [flat_length (f := fun b => brow np (b, 0)) (m := 2) (fun _ => rfl), hPl]
  have hz1 : zeros [.slice none 0 0, .int .i64 0] (nb - i) = [.slice none 0 0, .int .i64 0] ++ zeros [.slice none 0 0, .int .i64 0] (nb - (i + 1)) := by
    rw [show nb - i = (nb - (i + 1)) + 1 by omega]
    unfold zeros
    rw [List.replicate_succ, List.flatten_cons]
  have hw6 : w5.heap.size + 1 = w6.heap.size := z6.symm
  have hbl5 := b5.lt
  have hdl5 := d5.lt
  have hxl5 := x5.lt
  refine st_i b7 (by rw [List.length_append, hfl, zeros_length]; show i * 2 < i * 2 + (nb - i) * 2; omega) fun w8 a8 e8 z8 => ?_
  have hset : (PB.flatMap (fun b => brow np (b, 0)) ++ zeros [.slice none 0 0, .int .i64 0] (nb - i)).set (i * 2) (.slice (some ⟨gb, 0, none⟩) np np) = (PB ++ [gb]).flatMap (fun b => brow np (b, 0)) ++ zeros [.slice none 0 0, .int .i64 0] (nb - (i + 1)) := by
    rw [List.set_append_right _ _ (by omega), hfl, Nat.sub_self, hz1, List.flatMap_append, List.append_assoc]
    rfl
  rw [hset] at a8
  have d8 := d7.ext e8 hpb
  have x8 := x7.ext e8 (fun hx => by omega)
  refine ⟨⟨d8, x8⟩, ?_⟩
  rw [inc_nat (by omega)]
  have hs5 := e5.size
  have e58 : Ext w5 w8 (· = bb) := (e57.of0 (X := (· = bb))).tr e8
  refine hnext hlt _ _ ⟨rfl, PB ++ [gb], by simp [hPl], a8, x8, d8, fun b hb => ?_, ?_, e5.trans e58 (fun _ _ h => h) (fun b' hb' hx => by omega)⟩
  · simp only [List.mem_append, List.mem_singleton] at hb
    rcases hb with hb | rfl
    · obtain ⟨q1, q2, q3, q4, q5⟩ := g5 b hb
      exact ⟨q1.ext e58 q3, q2, q3, q4, q5⟩
    · exact ⟨a7.ext e8 (by omega), by omega, by omega, by omega, by omega⟩
  · rw [List.nodup_append]
    refine ⟨nd5, by simp, fun a ha b hb hab => ?_⟩
    simp only [List.mem_singleton] at hb
    subst hb
    have := ((g5 a ha).1).lt
    omega
end
end Go.Proofs.Ytbfkhnaknbkilaa.Fl
