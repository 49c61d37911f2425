/-
  Page compression: contracts of the reference's unpack and Decompress. No condition beyond those stated.
-/
import Derived.Test.YtpinpccamfhofaaGC
set_option linter.unusedVariables false
set_option linter.unusedSimpArgs false
set_option maxRecDepth 100000
namespace Go.Proofs.Ytpinpccamfhofaa.Pz
open Go Go.Ev Go.Proofs

theorem upper_add {x : Nat} (hx : x < 4294967296) (b c : UInt8) : IntKind.wrap .u32 ((IntKind.wrap .u32 ((IntKind.wrap .u32 ((Int.fdiv (x : Int) (2 ^ 16)) * 2 ^ 16)) + (IntKind.wrap .u32 (b.toNat : Int)))) + (IntKind.wrap .u32 ((IntKind.wrap .u32 (c.toNat : Int)) * 2 ^ 8)))
    = ((x / 65536 * 65536 + b.toNat + c.toNat * 256 : Nat) : Int) := by
  have h1 := b.toNat_lt; have h2 := c.toNat_lt
  rw [fdiv16]
  simp only [wrap_u32']
  omega
theorem tag_shr (x : UInt8) (i : Nat) : Int.fdiv ((x.toNat : Nat) : Int) (2 ^ (((2 * (i % 4) : Nat) : Int)).toNat) = ((x.toNat / 4 ^ (i % 4) : Nat) : Int) := by
  rw [Int.toNat_natCast, pow_two_mod, fdiv_n]
theorem band_u8 {n : Nat} (h : n < 256) : band .u8 (n : Int) 3 = ((n % 4 : Nat) : Int) := by
  unfold band
  have : (BitVec.ofInt (IntKind.bits .u8) (n : Int) &&& BitVec.ofInt (IntKind.bits .u8) 3).toNat = n % 4 := by
    show (BitVec.ofInt 8 (n : Int) &&& BitVec.ofInt 8 ((3 : Nat) : Int)).toNat = n % 4
    rw [BitVec.ofInt_natCast, BitVec.ofInt_natCast, BitVec.toNat_and, BitVec.toNat_ofNat, BitVec.toNat_ofNat, Nat.mod_eq_of_lt (by omega), show 3 % 2 ^ 8 = 2 ^ 2 - 1 by rfl, Nat.and_two_pow_sub_one_eq_mod]
  rw [this, wrap_u8n (by omega)]
theorem getD_tags (l : List UInt8) {i : Nat} (hi : i < 16) : ((l.take 17).drop 1).getD i 0 = l.getD (1 + i) 0 := by
  rw [getD_drop, List.getD_eq_getElem?_getD, List.getD_eq_getElem?_getD, List.getElem?_take, if_pos (by omega)]

section
variable {w : World} {Q : Value → World → Prop}

/-- What holds after i words. -/
structure Unp (U w : World) (db : Nat) (la : Option Addr) (n c : Nat) (d ws : List Nat) : Prop where
  dd : At w db (dcells d) 169
  f : Fine d
  s : Sl w 5 1 la n c (by_ (flat ws))
  n : n = 4 * ws.length
  lo : U.heap.size ≤ db
  sb : ∀ b, la = some ⟨b, 0, none⟩ → b ≠ db ∧ U.heap.size ≤ b
  e : Ext U w (fun _ => False)

theorem Unp.drew {U w : World} {db : Nat} {la : Option Addr} {n c : Nat} {d ws : List Nat} (h : Unp U w db la n c d ws) : Unp U (drew w) db la n c d ws := ⟨h.dd, h.f, h.s, h.n, h.lo, h.sb, h.e.drew_⟩

theorem unpack_k24 {U : World} {db : Nat} {la : Option Addr} {n c i x at_ : Nat} {l : List UInt8} {d ws : List Nat} {next : ((Option Addr × Nat × Nat) × Int × Int × Unit) → World → Prop}
    (h : Unp U w db la n c d ws) (hws : ws.length = i) (hi : i < 64)
    (hn : ∀ la' n' c' w', Unp U w' db la' n' c' d (ws ++ [x]) → next ((la', n', c'), (at_ : Int), ((i + 1 : Nat) : Int), ()) w') :
    W.ref33_unpack_k24 (mkS l) ⟨db, 0, none⟩ la n c (at_ : Int) (i : Int) (x : Int) next w Q := by
  unfold W.ref33_unpack_k24
  rw [wrap_byte, fdiv8, wrap_byte, fdiv16, wrap_byte, fdiv24, wrap_byte, inc_nat (by omega)]
  have hnn := h.n
  refine al_ap (bs := b4 x) rfl rfl h.s (by omega) fun a' c' w7 s7 hor e7 => ?_
  have h1 := h.dd.lt; have h3 := h.e.size
  refine hn _ _ _ _ ⟨h.dd.ext e7 (fun hx => (h.sb _ hx).1 rfl), h.f, by rw [flat_snoc]; exact s7, by rw [List.length_append, List.length_singleton]; omega, h.lo, fun b hb => ?_, h.e.trans e7 (fun _ _ h => h) (fun b' hb' hx => by have := (h.sb _ hx).2; omega)⟩
  rcases hor b hb with hx | hx
  · exact h.sb b hx
  · exact ⟨by omega, by omega⟩

theorem unpack_k21 {U : World} {db : Nat} {la : Option Addr} {n c i x at_ s : Nat} {l : List UInt8} {d ws : List Nat} {next : ((Option Addr × Nat × Nat) × Int × Int × Unit) → World → Prop}
    (h : Unp U w db la n c d ws) (hws : ws.length = i) (hi : i < 64) (hx : x < 4294967296) (hat : at_ + s ≤ 1000000000)
    (hn : ∀ la' n' c' w', Unp U w' db la' n' c' (learn d x) (ws ++ [x]) → next ((la', n', c'), ((at_ + s : Nat) : Int), ((i + 1 : Nat) : Int), ()) w') :
    W.ref33_unpack_k21 (mkS l) ⟨db, 0, none⟩ la n c (at_ : Int) (i : Int) (s : Int) (x : Int) next w Q := by
  unfold W.ref33_unpack_k21
  rw [slot_u32, idx_i64 (by omega) s (by omega)]
  have hs := slot_lt x
  by_cases h0 : x = 0
  · subst h0
    rw [show (((0 : Nat) : Int) != 0) = false from rfl, br_false]
    exact unpack_k24 h hws hi hn
  · rw [show ((x : Int) != 0) = true by rw [bne_iff_ne]; omega, br_true]
    refine ixa (slot x) 16 1 119 hs ?_
    refine st_i h.dd (by rw [dcells_length, h.f.1]; omega) fun w2 a2 e2 z2 => ?_
    rw [dcells_set, Nat.mul_one] at a2
    refine unpack_k24 (d := learn d x) ⟨by unfold learn; rw [if_neg h0]; exact a2, fine_learn h.f hx, h.s.ext e2 (fun b hb hx => (h.sb b hb).1 hx), h.n, h.lo, h.sb, h.e.trans e2 (fun _ _ h => h) (fun b' hb' hx => by have := h.lo; omega)⟩ hws hi hn

theorem unpack_k13 {U : World} {db : Nat} {la : Option Addr} {n c i t at_ : Nat} {l : List UInt8} {d ws : List Nat} {next : ((Option Addr × Nat × Nat) × Int × Int × Unit) → World → Prop}
    (h : Unp U w db la n c d ws) (hws : ws.length = i) (hi : i < 64) (ht : t < 4) (hlen : l.length ≤ 1000000) (hsz : at_ + size t ≤ l.length) (h15 : t = 1 ∨ t = 2 → (l.getD at_ 0).toNat < 16)
    (hn : ∀ x la' n' c' w', dec d t (l.drop at_) = some x → Unp U w' db la' n' c' (learn d x) (ws ++ [x]) → next ((la', n', c'), ((at_ + size t : Nat) : Int), ((i + 1 : Nat) : Int), ()) w') :
    W.ref33_unpack_k13 (mkS l) ⟨db, 0, none⟩ la n c (at_ : Int) (i : Int) (t : Int) (size t : Int) next w Q := by
  unfold W.ref33_unpack_k13
  have hrl : ¬ (l.drop at_).length < size t := by rw [List.length_drop]; omega
  have h0g : (l.drop at_).getD 0 0 = l.getD at_ 0 := by rw [getD_drop, Nat.add_zero]
  have i1 : IntKind.wrap .i64 ((at_ : Int) + 1) = ((at_ + 1 : Nat) : Int) := idx_i64 (by omega) 1 (by omega)
  have i2 : IntKind.wrap .i64 ((at_ : Int) + 2) = ((at_ + 2 : Nat) : Int) := idx_i64 (by omega) 2 (by omega)
  have i3 : IntKind.wrap .i64 ((at_ : Int) + 3) = ((at_ + 3 : Nat) : Int) := idx_i64 (by omega) 3 (by omega)
  rw [i1, i2, i3]
  rcases (show t = 0 ∨ t = 1 ∨ t = 2 ∨ t = 3 by omega) with rfl | rfl | rfl | rfl
  · rw [show (((0 : Nat) : Int) == 1) = false from rfl, br_false, show (((0 : Nat) : Int) == 2) = false from rfl, br_false, show (((0 : Nat) : Int) == 3) = false from rfl, br_false]
    exact unpack_k21 (x := 0) h hws hi (by omega) (by omega) fun la' n' c' w' h' => hn 0 la' n' c' w' (by unfold dec; rw [if_neg hrl, if_pos rfl]) h'
  · rw [show size 1 = 1 from rfl] at *
    have hg := h15 (.inl rfl)
    rw [show (((1 : Nat) : Int) == 1) = true from rfl, br_true]
    refine qI (sxn at_ (by omega)) ?_
    refine ixa (l.getD at_ 0).toNat 16 1 119 hg ?_
    refine ldI h.dd (by rw [Nat.mul_one]; exact dcells_getD (by rw [h.f.1]; exact hg)) ?_
    refine unpack_k21 h hws hi (fine_getD h.f _) (by omega) fun la' n' c' w' h' => hn _ la' n' c' w' ?_ h'
    unfold dec
    rw [show size 1 = 1 from rfl, if_neg hrl, if_neg (by omega), if_neg (by omega), h0g, if_neg (by omega), if_neg (by omega)]
  · rw [show size 2 = 3 from rfl] at *
    have hg := h15 (.inr rfl)
    rw [show (((2 : Nat) : Int) == 1) = false from rfl, br_false, show (((2 : Nat) : Int) == 2) = true from rfl, br_true]
    show dr w _
    unfold dr
    refine qI (sxn at_ (by omega)) ?_
    refine ixa (l.getD at_ 0).toNat 16 1 119 hg ?_
    refine ldI h.drew.dd (by rw [Nat.mul_one]; exact dcells_getD (by rw [h.f.1]; exact hg)) ?_
    refine qI (sxn (at_ + 1) (by omega)) ?_
    refine qI (sxn (at_ + 2) (by omega)) ?_
    rw [upper_add (fine_getD h.f _)]
    refine unpack_k21 h.drew hws hi (upper_lt (fine_getD h.f _) _ _) (by omega) fun la' n' c' w' h' => hn _ la' n' c' w' ?_ h'
    unfold dec
    rw [show size 2 = 3 from rfl, if_neg hrl, if_neg (by omega), if_neg (by omega), h0g, if_neg (by omega), if_pos rfl, getD_drop, getD_drop]
  · rw [show size 3 = 4 from rfl] at *
    rw [show (((3 : Nat) : Int) == 1) = false from rfl, br_false, show (((3 : Nat) : Int) == 2) = false from rfl, br_false, show (((3 : Nat) : Int) == 3) = true from rfl, br_true]
    show dr w _
    unfold dr
    refine qI (sxn at_ (by omega)) ?_
    refine qI (sxn (at_ + 1) (by omega)) ?_
    refine qI (sxn (at_ + 2) (by omega)) ?_
    refine qI (sxn (at_ + 3) (by omega)) ?_
    rw [word_add, ← word_at]
    refine unpack_k21 h.drew hws hi (word_lt _) (by omega) fun la' n' c' w' h' => hn _ la' n' c' w' ?_ h'
    unfold dec
    rw [show size 3 = 4 from rfl, if_neg hrl, if_neg (by omega), if_pos rfl]

theorem size_pick {t : Nat} (h : t < 4) : ([Value.int .i64 0, .int .i64 1, .int .i64 3, .int .i64 4])[t]? = some (.int .i64 (size t : Int)) := by
  rcases (show t = 0 ∨ t = 1 ∨ t = 2 ∨ t = 3 by omega) with rfl | rfl | rfl | rfl <;> rfl

theorem unpack_c {l : List UInt8} (hlen : l.length ≤ 1000000)
    (hQ : ∀ t b w', (b = true → 17 ≤ l.length ∧ ∃ ws r, unp ((l.take 17).drop 1) 64 0 d0 (l.drop 17) = some (ws, r) ∧ t = flat ws) → (b = false → l.length < 17 ∨ unp ((l.take 17).drop 1) 64 0 d0 (l.drop 17) = none) → Ext w w' (fun _ => False) → Q (.tuple #[.string (mkS t), .bool b]) w') :
    CallE Try.prog 124 #[.string (mkS l)] w Q := by
  apply C.ref33_unpack
  unfold W.ref33_unpack
  rw [mkS_size]
  by_cases h17 : l.length < 17
  · rw [decide_eq_true (by omega), br_true]
    exact hQ [] false w (by simp) (fun _ => .inl h17) (Ext.refl _ _)
  rw [decide_eq_false (by omega), br_false]
  refine al_i fun db w1 hdb a1 e1 z1 => ?_
  rw [zero_dictR] at a1
  generalize htg : (l.take 17).drop 1 = tg at *
  refine LoopW.nat 64 (fun i x w' => ∃ la n c d ws, ∃ at_ : Nat, x = ((la, n, c), (at_ : Int), (i : Int), ()) ∧ ws.length = i ∧ at_ ≤ l.length ∧ unp tg 64 0 d0 (l.drop 17) = (unp tg (64 - i) i d (l.drop at_)).map (fun y => (ws ++ y.1, y.2)) ∧ Unp w w' db la n c d ws)
    ⟨none, 0, 0, d0, [], 17, rfl, rfl, by omega, by cases unp tg (64 - 0) 0 d0 (l.drop 17) <;> rfl, a1, fine_d0, .inl ⟨rfl, rfl, rfl, rfl⟩, rfl, by omega, (fun b hb => by cases hb), e1⟩ ?_
  rintro i x w3 next hi ⟨la, n, c, d, ws, at_, rfl, hws, hat, hunp, h⟩ hnext
  dsimp only
  by_cases hlt : i < 64
  case neg =>
    obtain rfl : i = 64 := by omega
    rw [decide_eq_false (by omega), br_false]
    unfold W.ref33_unpack_k25
    have hfl : (flat ws).length = n := by rw [flat_length, h.n]
    refine slT h.s hfl ?_
    rw [Nat.sub_self, show unp tg 0 64 d (l.drop at_) = some ([], l.drop at_) from rfl, Option.map_some] at hunp
    dsimp only at hunp
    rw [List.append_nil] at hunp
    exact hQ _ true w3 (fun _ => ⟨by omega, ws, _, hunp, rfl⟩) (by simp) h.e
  rw [decide_eq_true (by omega), br_true]
  rw [show IntKind.wrap .i64 (Int.tdiv (i : Int) 4) = ((i / 4 : Nat) : Int) by rw [show Int.tdiv (i : Int) 4 = ((i / 4 : Nat) : Int) from rfl, wrap_nat (by omega)], two_mod]
  rw [show IntKind.wrap .i64 (1 + ((i / 4 : Nat) : Int)) = ((1 + i / 4 : Nat) : Int) by rw [wrap_i64 (by omega) (by omega)]; push_cast; rfl]
  refine qI (sxn (1 + i / 4) (by omega)) ?_
  refine qI (shr_i (by omega) (by show _ ≤ ((8 : Nat) : Int); omega)) ?_
  rw [tag_shr]
  have hbnd : ∀ x : UInt8, x.toNat / 4 ^ (i % 4) < 256 := fun x => Nat.lt_of_le_of_lt (Nat.div_le_self _ _) x.toNat_lt
  rw [band_u8 (hbnd _)]
  have htag : (l.getD (1 + i / 4) 0).toNat / 4 ^ (i % 4) % 4 = tagAt tg i := by
    unfold tagAt
    rw [← htg, getD_tags l (by omega)]
  rw [htag]
  have htl := tagAt_lt tg i
  rw [unp_step hlt] at hunp
  generalize tagAt tg i = t at *
  refine qI (ag_x t 4 3 htl (size_pick htl)) ?_
  rw [show IntKind.wrap .i64 (((l.length : Nat) : Int) - (at_ : Int)) = ((l.length - at_ : Nat) : Int) by rw [wrap_i64 (by omega) (by omega)]; omega]
  by_cases hsz : l.length - at_ < size t
  · rw [decide_eq_true (by omega), br_true]
    have hd : dec d t (l.drop at_) = none := by unfold dec; rw [if_pos (by rw [List.length_drop]; exact hsz)]
    rw [hd] at hunp
    exact hQ [] false w3 (by simp) (fun _ => .inr hunp) h.e
  rw [decide_eq_false (by omega), br_false]
  have hst : at_ + size t ≤ l.length ∨ size t = 0 := by omega
  have hst' : at_ + size t ≤ l.length := by omega
  have go : (t = 1 ∨ t = 2 → (l.getD at_ 0).toNat < 16) → W.ref33_unpack_k13 (mkS l) ⟨db, 0, none⟩ la n c (at_ : Int) (i : Int) (t : Int) (size t : Int) next w3 Q := by
    intro h15
    refine unpack_k13 h hws hlt htl hlen hst' h15 fun x la' n' c' w' hx h' => ?_
    refine hnext hlt _ _ ⟨la', n', c', learn d x, ws ++ [x], at_ + size t, rfl, by rw [List.length_append, hws]; rfl, hst', ?_, h'⟩
    rw [hx] at hunp
    rw [hunp, List.drop_drop]
    dsimp only
    cases unp tg (64 - (i + 1)) (i + 1) (learn d x) (l.drop (at_ + size t)) with
    | none => rfl
    | some y => simp
  have bad : (t = 1 ∨ t = 2) → ¬ (l.getD at_ 0).toNat < 16 → Q (.tuple #[.string ⟨#[]⟩, .bool false]) w3 := by
    intro ht12 hge
    have hd : dec d t (l.drop at_) = none := by
      unfold dec
      rw [if_neg (by rw [List.length_drop]; omega), if_neg (by omega), if_neg (by omega), getD_drop, Nat.add_zero, if_pos (by omega)]
    rw [hd] at hunp
    exact hQ [] false w3 (by simp) (fun _ => .inr hunp) h.e
  by_cases h1 : t = 1
  · subst h1
    rw [show size 1 = 1 from rfl] at hst'
    rw [show (((1 : Nat) : Int) == 1) = true from rfl, br_true]
    refine qI (sxn at_ (by omega)) ?_
    refine br_of (fun hb => bad (.inl rfl) ?_) (fun hb => go fun _ => ?_)
    · simp only [decide_eq_true_eq] at hb; omega
    · simp only [decide_eq_false_iff_not] at hb; omega
  rw [show ((t : Int) == 1) = false by rw [beq_eq_false_iff_ne]; omega, br_false]
  by_cases h2 : t = 2
  · subst h2
    rw [show size 2 = 3 from rfl] at hst'
    rw [show (((2 : Nat) : Int) == 2) = true from rfl, br_true]
    refine qI (sxn at_ (by omega)) ?_
    refine br_of (fun hb => bad (.inr rfl) ?_) (fun hb => go fun _ => ?_)
    · simp only [decide_eq_true_eq] at hb; omega
    · simp only [decide_eq_false_iff_not] at hb; omega
  rw [show ((t : Int) == 2) = false by rw [beq_eq_false_iff_ne]; omega, br_false]
  exact go (fun h => by omega)

theorem refDecompress_k6 {U : World} {l t : List UInt8} {b : Bool} (h1 : b = true → expR l = some t ∧ t.length = 256) (h2 : b = false → expR l = none) (e0 : Ext U w (fun _ => False))
    (hQ : ∀ w', Ext U w' (fun _ => False) → Q (.tuple #[.string (mkS (back (expR l) l).1), .int .i64 (back (expR l) l).2]) w') : W.ref33_Decompress_k6 (mkS l) (mkS t) b w Q := by
  unfold W.ref33_Decompress_k6
  cases b with
  | false =>
    simp only [Bool.not_false, br_true]
    have := hQ w e0
    rw [h2 rfl] at this
    exact this
  | true =>
    simp only [Bool.not_true, br_false]
    obtain ⟨hE, ht⟩ := h1 rfl
    rw [hE] at hQ
    refine refCompress_c ht fun w2 e2 => ⟨_, _, rfl, ?_⟩
    rw [show ((0 : Int) != 0) = false from rfl, br_false]
    refine qB s_ne ?_
    have fin := hQ w2 (e0.tr e2)
    unfold back at fin
    dsimp only at fin
    by_cases hc : comp t = l
    · rw [if_pos hc] at fin
      rw [decide_eq_true hc, Bool.not_true, br_false]
      exact fin
    · rw [if_neg hc] at fin
      rw [decide_eq_false hc, Bool.not_false, br_true]
      exact fin

theorem refDecompress_c {l : List UInt8} (hlen : l.length ≤ 1000000) (hQ : ∀ w', Ext w w' (fun _ => False) → Q (.tuple #[.string (mkS (back (expR l) l).1), .int .i64 (back (expR l) l).2]) w') :
    CallE Try.prog 120 #[.string (mkS l)] w Q := by
  apply C.ref33_Decompress
  unfold W.ref33_Decompress
  rw [mkS_size]
  have hE : ¬ (l.length = 257 ∧ l.getD 0 0 = 0) → expR l = if l.length < 17 ∨ l.getD 0 0 ≠ 1 then none else match unp ((l.take 17).drop 1) 64 0 d0 (l.drop 17) with
    | some (ws, _) => some (flat ws)
    | none => none := by intro hno; unfold expR; rw [if_neg hno]; rfl
  have k5 : ∀ f : Bool, (f = true ↔ l.getD 0 0 = 1 ∧ 0 < l.length) → ¬ (l.length = 257 ∧ l.getD 0 0 = 0) → W.ref33_Decompress_k5 (mkS l) (mkS []) false f w Q := by
    intro f hf hno
    unfold W.ref33_Decompress_k5
    have hE := hE hno
    cases f with
    | false =>
      rw [br_false]
      refine refDecompress_k6 (by simp) (fun _ => ?_) (Ext.refl _ _) hQ
      rw [hE, if_pos]
      by_cases h0 : l.getD 0 0 = 1
      · left
        by_cases hl0 : 0 < l.length
        · have := hf.2 ⟨h0, hl0⟩; cases this
        · omega
      · exact .inr h0
    | true =>
      rw [br_true]
      obtain ⟨hf1, hf2⟩ := hf.1 rfl
      refine unpack_c hlen fun t b w1 h1 h2 e1 => ⟨_, _, rfl, ?_⟩
      refine refDecompress_k6 (fun hb => ?_) (fun hb => ?_) e1 hQ
      · obtain ⟨h17, ws, r, hu, rfl⟩ := h1 hb
        rw [hE, if_neg (by rintro (h | h); omega; exact h hf1), hu]
        exact ⟨rfl, by rw [flat_length, unp_length _ _ _ _ _ _ _ hu]⟩
      · rw [hE]
        rcases h2 hb with h | h
        · rw [if_pos (.inl h)]
        · rw [h]; split <;> rfl
  have k3 : ¬ (l.length = 257 ∧ l.getD 0 0 = 0) → W.ref33_Decompress_k3 (mkS l) (mkS []) false false w Q := by
    intro hno
    unfold W.ref33_Decompress_k3
    rw [br_false, mkS_size]
    by_cases h0 : 0 < l.length
    · rw [decide_eq_true (by omega), br_true]
      refine qI (sxn 0 h0) ?_
      refine k5 _ ?_ hno
      rw [beq_iff_eq]
      constructor
      · intro h
        exact ⟨UInt8.toNat_inj.mp (by show (l.getD 0 0).toNat = 1; omega), h0⟩
      · rintro ⟨h, _⟩
        rw [h]; rfl
    · rw [decide_eq_false (by omega), br_false]
      refine k5 _ ⟨fun h => (by cases h), fun h => absurd h.2 h0⟩ hno
  by_cases h257 : l.length = 257
  case neg =>
    rw [show (((l.length : Nat) : Int) == 257) = false by simp; omega, br_false, mkS_nil]
    exact k3 (fun h => h257 h.1)
  rw [show (((l.length : Nat) : Int) == 257) = true by simp; omega, br_true]
  refine qI (sxn 0 (by omega)) ?_
  by_cases h0 : l.getD 0 0 = 0
  · have h1 : (l.getD 0 0).toNat = 0 := by rw [h0]; rfl
    rw [h1, show (((0 : Nat) : Int) == 0) = true from rfl, mkS_nil]
    unfold W.ref33_Decompress_k3
    rw [br_true]
    refine qT (s_lo (by omega) (by omega)) ?_
    refine refDecompress_k6 (fun _ => ⟨?_, by rw [List.length_drop, h257]; rfl⟩) (by simp) (Ext.refl _ _) hQ
    unfold expR
    rw [if_pos ⟨h257, h0⟩]
    rfl
  · have : (l.getD 0 0).toNat ≠ 0 := fun h => h0 (UInt8.toNat_inj.mp h)
    rw [show ((((l.getD 0 0).toNat : Nat) : Int) == 0) = false by rw [beq_eq_false_iff_ne]; omega, mkS_nil]
    exact k3 (fun h => h0 h.2)
end
end Go.Proofs.Ytpinpccamfhofaa.Pz
