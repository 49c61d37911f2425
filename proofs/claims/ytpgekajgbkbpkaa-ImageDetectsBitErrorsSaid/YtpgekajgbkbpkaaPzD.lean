/-
  Page compression: contracts of the program's Decompress. No condition beyond those stated.
-/
import Derived.Test.YtpgekajgbkbpkaaPzP
namespace Go.Proofs.Ytpgekajgbkbpkaa.Pz
open Go Go.Ev Go.Proofs

theorem upper_or {x : Nat} (hx : x < 4294967296) (b c : UInt8) : bor .u32 (bor .u32 (band .u32 (x : Int) 4294901760) (IntKind.wrap .u32 (b.toNat : Int))) (IntKind.wrap .u32 ((IntKind.wrap .u32 (c.toNat : Int)) * 2 ^ 8))
    = ((x / 65536 * 65536 + b.toNat + c.toNat * 256 : Nat) : Int) := by
  have h1 := b.toNat_lt; have h2 := c.toNat_lt
  rw [wrap_u32n (n := b.toNat) (by omega), wrap_u32n (n := c.toNat) (by omega)]
  rw [show (c.toNat : Int) * 2 ^ 8 = ((c.toNat * 2 ^ 8 : Nat) : Int) by rw [Int.natCast_mul]; rfl, wrap_u32n (by omega)]
  rw [show (4294901760 : Int) = ((4294901760 : Nat) : Int) from rfl, band_u32 hx (by omega), and_hi hx]
  have ho : x / 65536 * 65536 ||| b.toNat = x / 65536 * 65536 + b.toNat := by
    have := or_add b.toNat (x / 65536) 16 (by omega)
    rw [Nat.or_comm, show (65536 : Nat) = 2 ^ 16 from rfl, this, Nat.add_comm]
  have ho2 : (x / 65536 * 65536 ||| b.toNat) ||| c.toNat * 2 ^ 8 = x / 65536 * 65536 + b.toNat + c.toNat * 256 := by
    rw [Nat.or_assoc, or_add b.toNat c.toNat 8 (by omega)]
    have := or_add (b.toNat + c.toNat * 2 ^ 8) (x / 65536) 16 (by omega)
    rw [Nat.or_comm, show (65536 : Nat) = 2 ^ 16 from rfl, this]
    omega
  rw [bor_u32 (by omega) (by omega), bor_u32 (by rw [ho]; omega) (by omega), ho2]

theorem upper_lt {x : Nat} (hx : x < 4294967296) (b c : UInt8) : x / 65536 * 65536 + b.toNat + c.toNat * 256 < 4294967296 := by
  have h1 := b.toNat_lt; have h2 := c.toNat_lt
  omega
theorem dec_lt {d : List Nat} (hf : Fine d) {t : Nat} {r : List UInt8} {x : Nat} (h : dec d t r = some x) : x < 4294967296 := by
  unfold dec at h
  split at h
  · cases h
  split at h
  · simp only [Option.some.injEq] at h; omega
  split at h
  · simp only [Option.some.injEq] at h; rw [← h]; exact word_lt r
  split at h
  · cases h
  split at h
  · simp only [Option.some.injEq] at h; rw [← h]; exact upper_lt (fine_getD hf _) _ _
  · simp only [Option.some.injEq] at h; rw [← h]; exact fine_getD hf _

section
variable {w : World} {Q : Value → World → Prop}

theorem decode_k9 {db : Nat} {d : List Nat} {T : TypeId} {t : Nat} {r : List UInt8} (hd : At w db (dcells d) T) (hf : Fine d) (ht : t < 4)
    (h1 : ∀ w' x, dec d t r = some x → Ext w w' (fun _ => False) → Q (.tuple #[.int .u32 (x : Int), .int .i64 (size t : Int), .bool true]) w')
    (h2 : dec d t r = none → Q (.tuple #[.int .u32 0, .int .i64 0, .bool false]) w) :
    W.pagezip_dictionary_decode_k9 ⟨db, 0, none⟩ (t : Int) (mkS r) (size t : Int) w Q := by
  unfold W.pagezip_dictionary_decode_k9
  rw [mkS_size]
  by_cases hlt : r.length < size t
  · rw [decide_eq_true (by omega), br_true]
    exact h2 (by unfold dec; rw [if_pos hlt])
  rw [decide_eq_false (by omega), br_false]
  by_cases h0 : t = 0
  · subst h0
    rw [show (((0 : Nat) : Int) == 0) = true from rfl, br_true]
    exact h1 w 0 (by unfold dec; rw [if_neg hlt, if_pos rfl]) (Ext.refl _ _)
  rw [show ((t : Int) == 0) = false by simp [h0], br_false]
  by_cases h3 : t = 3
  · subst h3
    rw [show (((3 : Nat) : Int) == 3) = true from rfl, br_true]
    refine wordAt_c (by simpa [size] using hlt) fun w1 e1 => ?_
    rw [fI_int]
    exact h1 w1 (word r) (by unfold dec; rw [if_neg hlt, if_neg (by omega), if_pos rfl]) e1
  rw [show ((t : Int) == 3) = false by simp; omega, br_false]
  have h1r : 1 ≤ r.length := by
    rcases (show t = 1 ∨ t = 2 by omega) with rfl | rfl
    · have h := hlt
      rw [show size 1 = 1 from rfl] at h
      omega
    · have h := hlt
      rw [show size 2 = 3 from rfl] at h
      omega
  refine rq_r (sxn 0 (by omega)) ?_
  rw [fI_int]
  by_cases h16 : (r.getD 0 0).toNat ≥ 16
  · rw [decide_eq_true (by omega), br_true]
    exact h2 (by unfold dec; rw [if_neg hlt, if_neg h0, if_neg h3, if_pos h16])
  rw [decide_eq_false (by omega), br_false]
  show dr w _
  unfold dr
  refine rq_r (sxn 0 (by omega)) ?_
  rw [fI_int]
  refine ix_arr (w := drew w) 16 1 23 (by omega) (by omega) ?_
  rw [fA_ptr, add_mk, Nat.zero_add, Nat.mul_one, Int.toNat_natCast]
  refine ld_i (w := drew w) hd (dcells_getD (by rw [hf.1]; omega)) ?_
  rw [fI_int]
  by_cases h22 : t = 2
  · subst h22
    have h3r : 3 ≤ r.length := by simpa [size] using hlt
    rw [show (((2 : Nat) : Int) == 2) = true from rfl, br_true]
    dsimp only
    refine rq_r (sxn 1 (by omega)) ?_
    rw [fI_int]
    refine rq_r (sxn 2 (by omega)) ?_
    rw [fI_int, upper_or (fine_getD hf _)]
    refine h1 _ _ ?_ (Ext.refl _ _).drew_.drew_
    unfold dec
    rw [if_neg hlt, if_neg (by omega), if_neg (by omega), if_neg h16, if_pos rfl]
  · rw [show ((t : Int) == 2) = false by simp; omega, br_false]
    refine h1 _ _ ?_ (Ext.refl _ _).drew_
    unfold dec
    rw [if_neg hlt, if_neg h0, if_neg h3, if_neg h16, if_neg h22]

theorem decode_c {db : Nat} {d : List Nat} {T : TypeId} {t : Nat} {r : List UInt8} (hd : At w db (dcells d) T) (hf : Fine d) (ht : t < 4)
    (h1 : ∀ w' x, dec d t r = some x → Ext w w' (fun _ => False) → Q (.tuple #[.int .u32 (x : Int), .int .i64 (size t : Int), .bool true]) w')
    (h2 : dec d t r = none → Q (.tuple #[.int .u32 0, .int .i64 0, .bool false]) w) :
    CallE Try.prog 53 #[.pointer (some ⟨db, 0, none⟩), .int .i64 (t : Int), .string (mkS r)] w Q := by
  apply C.pagezip_dictionary_decode
  unfold W.pagezip_dictionary_decode
  have key := decode_k9 (Q := Q) hd hf ht h1 h2
  rcases (show t = 0 ∨ t = 1 ∨ t = 2 ∨ t = 3 by omega) with rfl | rfl | rfl | rfl
  · exact key
  · exact key
  · exact key
  · exact key

theorem tag_shift (x : UInt8) {i : Nat} : IntKind.wrap .i64 (Int.fdiv ((x.toNat : Nat) : Int) (2 ^ (IntKind.wrap .i64 (2 * (Int.tmod (i : Int) 4))).toNat)) = ((x.toNat / 4 ^ (i % 4) : Nat) : Int) := by
  have hm : i % 4 < 4 := Nat.mod_lt _ (by omega)
  have hx := x.toNat_lt
  have h2 : IntKind.wrap .i64 (2 * (Int.tmod (i : Int) 4)) = ((2 * (i % 4) : Nat) : Int) := by
    rw [show Int.tmod (i : Int) 4 = ((i % 4 : Nat) : Int) from rfl, wrap_i64 (by omega) (by omega)]
    push_cast; rfl
  rw [h2, Int.toNat_natCast, show ((2 : Int) ^ (2 * (i % 4))) = ((4 ^ (i % 4) : Nat) : Int) by rw [show (4 : Nat) ^ (i % 4) = 2 ^ (2 * (i % 4)) by rw [Nat.pow_mul], Int.natCast_pow]; rfl, fdiv_n]
  have := Nat.div_le_self x.toNat (4 ^ (i % 4))
  generalize x.toNat / 4 ^ (i % 4) = q at *
  rw [wrap_i64 (by omega) (by omega)]
theorem band_i64 {n : Nat} (h : n < 256) : band .i64 (n : Int) 3 = ((n % 4 : Nat) : Int) := by
  unfold band
  have : (BitVec.ofInt (IntKind.bits .i64) (n : Int) &&& BitVec.ofInt (IntKind.bits .i64) 3).toNat = n % 4 := by
    show (BitVec.ofInt 64 (n : Int) &&& BitVec.ofInt 64 ((3 : Nat) : Int)).toNat = n % 4
    rw [BitVec.ofInt_natCast, BitVec.ofInt_natCast, BitVec.toNat_and, BitVec.toNat_ofNat, BitVec.toNat_ofNat, Nat.mod_eq_of_lt (by omega), show 3 % 2 ^ 64 = 2 ^ 2 - 1 by rfl, Nat.and_two_pow_sub_one_eq_mod]
  rw [this, wrap_i64 (by omega) (by omega)]

theorem flat_snoc (ws : List Nat) (x : Nat) : flat (ws ++ [x]) = flat ws ++ b4 x := by simp [flat]

theorem unp_step {tg : List UInt8} {i : Nat} (hi : i < 64) {d : List Nat} {r : List UInt8} : unp tg (64 - i) i d r = match dec d (tagAt tg i) r with
    | none => none
    | some w => (unp tg (64 - (i + 1)) (i + 1) (learn d w) (r.drop (size (tagAt tg i)))).map fun x => (w :: x.1, x.2) := by
  rw [show 64 - i = (64 - (i + 1)) + 1 by omega]
  simp only [unp]
  cases dec d (tagAt tg i) r with
  | none => rfl
  | some w =>
    dsimp only
    cases unp tg (64 - (i + 1)) (i + 1) (learn d w) (r.drop (size (tagAt tg i))) with
    | none => rfl
    | some x => rfl
theorem tagAt_lt (tg : List UInt8) (i : Nat) : tagAt tg i < 4 := Nat.mod_lt _ (by omega)

theorem expand_k3 {l : List UInt8} (hno : ¬ (l.length = 257 ∧ l.getD 0 0 = 0)) (hlen : l.length ≤ 1000000)
    (hQ : ∀ t b w', (b = true → expP l = some t) → (b = false → expP l = none) → Ext w w' (fun _ => False) → Q (.tuple #[.string (mkS t), .bool b]) w') :
    W.pagezip_expand_k3 (mkS l) w Q := by
  unfold W.pagezip_expand_k3
  rw [mkS_size]
  have hE : expP l = if l.length < 17 ∨ l.length > 256 ∨ l.getD 0 0 ≠ 1 then none else match unp ((l.take 17).drop 1) 64 0 d0 (l.drop 17) with
    | some (ws, []) => some (flat ws)
    | _ => none := by unfold expP; rw [if_neg hno]; rfl
  by_cases h17 : l.length < 17
  · rw [decide_eq_true (by omega), br_true]
    exact hQ [] false w (by simp) (fun _ => by rw [hE, if_pos (.inl h17)]) (Ext.refl _ _)
  rw [decide_eq_false (by omega), br_false]
  by_cases h256 : l.length > 256
  · rw [decide_eq_true (by omega), br_true]
    exact hQ [] false w (by simp) (fun _ => by rw [hE, if_pos (.inr (.inl h256))]) (Ext.refl _ _)
  rw [decide_eq_false (by omega), br_false]
  refine rq_r (sxn 0 (by omega)) ?_
  rw [fI_int]
  by_cases hf1 : l.getD 0 0 = 1
  case neg =>
    have : (l.getD 0 0).toNat ≠ 1 := fun h => hf1 (UInt8.toNat_inj.mp h)
    rw [show ((((l.getD 0 0).toNat : Nat) : Int) != 1) = true by rw [bne_iff_ne]; omega, br_true]
    exact hQ [] false w (by simp) (fun _ => by rw [hE, if_pos (.inr (.inr hf1))]) (Ext.refl _ _)
  have h1 : (l.getD 0 0).toNat = 1 := by rw [hf1]; rfl
  rw [h1, show (((1 : Nat) : Int) != 1) = false from rfl, br_false]
  rw [if_neg (by rintro (h | h | h) <;> first | omega | exact h hf1)] at hE
  show dr w _
  unfold dr
  refine rq_r (s_lh (by omega) (by omega) (by omega)) ?_
  rw [fT_str]
  refine rq_r (s_lo (by omega) (by omega)) ?_
  rw [fT_str]
  rw [show (17 : Int).toNat = 17 from rfl, show (1 : Int).toNat = 1 from rfl]
  have htgl : ((l.take 17).drop 1).length = 16 := by simp; omega
  generalize (l.take 17).drop 1 = tg at *
  have hr0 : (l.drop 17).length ≤ 256 := by simp; omega
  generalize l.drop 17 = r0 at *
  refine al_i fun db w1 hdb a1 e1 z1 => ?_
  rw [zero_dict] at a1
  refine al_i fun bb w2 hbb a2 e2 z2 => ?_
  have hz : (zeroT Try.prog 84).cells.toList = [.pointer none, .slice none 0 0] := by kernel_rfl
  rw [hz] at a2
  have e02 : Ext w w2 (fun _ => False) := e1.of_drew.tr e2
  have hszw : w1.heap.size = w.heap.size + 1 := z1
  have hdbw : db = w.heap.size := hdb
  refine LoopW.nat 64 (fun i x w' => ∃ ws d r, x = (mkS r, (i : Int), ()) ∧ ws.length = i ∧ unp tg 64 0 d0 r0 = (unp tg (64 - i) i d r).map (fun y => (ws ++ y.1, y.2)) ∧ r.length ≤ 256 ∧ Fine d ∧ At w' db (dcells d) 78 ∧ BldFrom w' bb bb (flat ws) ∧ Ext w w' (fun _ => False))
    ⟨[], d0, r0, rfl, rfl, by cases unp tg (64 - 0) 0 d0 r0 <;> rfl, hr0, fine_d0, a1.ext e2 (fun h => h), ⟨none, none, 0, 0, a2, .inl rfl, .inl ⟨rfl, rfl, rfl, rfl⟩, rfl, Nat.le_refl _, fun g hg => by cases hg⟩, e02⟩ ?_
  rintro i x w3 next hi ⟨ws, d, r, rfl, hws, hunp, hrl, hfd, hD, hB, he⟩ hnext
  dsimp only
  have hsz := he.size
  have hfl : (flat ws).length = 4 * i := by rw [flat_length, hws]
  by_cases hlt : i < 64
  case neg =>
    obtain rfl : i = 64 := by omega
    rw [decide_eq_false (by omega), br_false]
    unfold W.pagezip_expand_k19
    refine bstring_c hB (by intro h; rw [h] at hfl; simp at hfl) (by omega) fun w4 e4 => ?_
    rw [fT_str, mkS_nil]
    refine rq_r s_eq ?_
    rw [fB_bool]
    rw [Nat.sub_self, show unp tg 0 64 d r = some ([], r) from rfl, Option.map_some] at hunp
    dsimp only at hunp
    rw [List.append_nil] at hunp
    rw [hunp] at hE
    refine hQ _ _ w4 (fun hb => ?_) (fun hb => ?_) (he.trans e4 (fun _ _ h => h) (fun b' hb' h => by omega))
    · simp only [decide_eq_true_eq] at hb
      subst hb
      exact hE
    · simp only [decide_eq_false_iff_not] at hb
      rw [hE]
      cases r with
      | nil => exact absurd rfl hb
      | cons a b => rfl
  rw [decide_eq_true (by omega), br_true]
  have hq : IntKind.wrap .i64 (Int.tdiv (i : Int) 4) = ((i / 4 : Nat) : Int) := by
    rw [show Int.tdiv (i : Int) 4 = ((i / 4 : Nat) : Int) from rfl, wrap_i64 (by omega) (by omega)]
  have h2m : IntKind.wrap .i64 (2 * (Int.tmod (i : Int) 4)) = ((2 * (i % 4) : Nat) : Int) := by
    rw [show Int.tmod (i : Int) 4 = ((i % 4 : Nat) : Int) from rfl, wrap_i64 (by omega) (by omega)]
    push_cast; rfl
  rw [hq]
  refine rq_r (sxn (i / 4) (by omega)) ?_
  rw [fI_int]
  refine rq_r (shr_i (by omega) (by rw [h2m]; show _ ≤ ((8 : Nat) : Int); omega)) ?_
  rw [fI_int, tag_shift]
  have hbnd : ∀ x : UInt8, x.toNat / 4 ^ (i % 4) < 256 := fun x => Nat.lt_of_le_of_lt (Nat.div_le_self _ _) x.toNat_lt
  rw [band_i64 (hbnd _)]
  have htag : (tg.getD (i / 4) 0).toNat / 4 ^ (i % 4) % 4 = tagAt tg i := rfl
  rw [htag]
  have htl := tagAt_lt tg i
  rw [unp_step hlt] at hunp
  generalize tagAt tg i = t at *
  refine decode_c hD hfd htl (fun w4 x hx e4 => ⟨_, _, _, rfl, ?_⟩) (fun hx => ⟨_, _, _, rfl, ?_⟩)
  case refine_2 =>
    simp only [Bool.not_false, br_true]
    rw [hx] at hunp
    exact hQ [] false w3 (by simp) (fun _ => by rw [hE, hunp]; rfl) he
  simp only [Bool.not_true, br_false]
  rw [hx] at hunp
  have hxl := dec_lt hfd hx
  have hst : size t ≤ r.length := by
    unfold dec at hx
    split at hx
    · cases hx
    · omega
  refine rq_r (s_lo (by omega) (by omega)) ?_
  rw [fT_str, Int.toNat_natCast]
  have hdb : db < w.heap.size + 1 := by omega
  have hBlt : bb = w1.heap.size := hbb
  refine learn_c (hD.ext e4 (fun h => h)) hfd hxl fun w5 a5 e5 z5 => ⟨rfl, ?_⟩
  rw [wrap_byte, fdiv8, wrap_byte, fdiv16, wrap_byte, fdiv24, wrap_byte]
  refine al_i fun xb w6 hxb a6 e6 z6 => ?_
  have e35 : Ext w3 w5 (· = db) := (e4.of0 (X := (· = db))).tr e5
  have e36 : Ext w3 w6 (· = db) := e35.tr0 e6
  have hB6 : BldFrom w6 bb bb (flat ws) := by
    obtain ⟨p, a, n, c, h1, h2, h3, h4, h5, h6⟩ := hB
    exact ⟨p, a, n, c, h1.ext e36 (by omega), h2, h3.ext e36 (fun g hg hx => by have := (h6 g hg).2; omega), h4, h5, h6⟩
  have hD6 := a5.ext e6 (fun h => h)
  have hs3 := e36.size
  have hbb3 : bb < w3.heap.size := by
    obtain ⟨p, a, n, c, h1, _⟩ := hB
    exact h1.lt
  have hs5 := e35.size
  refine bwrite_c (l' := b4 x) hB6 (.inr ⟨_, rfl, fun j hj => by rw [add_mk, a6.cell, Nat.zero_add]; rfl⟩) (fun g hg => by cases hg; show xb ≠ bb; omega) rfl (by rw [hfl, b4_length]; omega) (by omega) fun w7 hB7 e7 => ⟨_, _, rfl, ?_⟩
  rw [wrap_i64 (by omega) (by omega)]
  refine hnext hlt _ _ ⟨ws ++ [x], learn d x, r.drop (size t), rfl, by rw [List.length_append, hws]; rfl, ?_, by simp; omega, fine_learn hfd hxl, hD6.ext e7 (by omega), by rw [flat_snoc]; exact hB7, (he.trans e36 (fun _ _ h => h) (fun b' hb' h => by omega)).trans e7 (fun _ _ h => h) (fun b' hb' h => by omega)⟩
  rw [hunp]
  dsimp only
  cases unp tg (64 - (i + 1)) (i + 1) (learn d x) (r.drop (size t)) with
  | none => rfl
  | some y => simp

theorem expand_c {l : List UInt8} (hlen : l.length ≤ 1000000)
    (hQ : ∀ t b w', (b = true → expP l = some t) → (b = false → expP l = none) → Ext w w' (fun _ => False) → Q (.tuple #[.string (mkS t), .bool b]) w') :
    CallE Try.prog 50 #[.string (mkS l)] w Q := by
  apply C.pagezip_expand
  unfold W.pagezip_expand
  rw [mkS_size]
  by_cases h257 : l.length = 257
  case neg =>
    rw [show (((l.length : Nat) : Int) == 257) = false by simp; omega, br_false]
    exact expand_k3 (by omega) hlen hQ
  rw [show (((l.length : Nat) : Int) == 257) = true by simp; omega, br_true]
  refine rq_r (sxn 0 (by omega)) ?_
  rw [fI_int]
  by_cases h0 : l.getD 0 0 = 0
  · have h1 : (l.getD 0 0).toNat = 0 := by rw [h0]; rfl
    rw [h1, show (((0 : Nat) : Int) == 0) = true from rfl, br_true]
    refine rq_r (s_lo (by omega) (by omega)) ?_
    rw [fT_str]
    exact hQ _ true w (fun _ => by unfold expP; rw [if_pos ⟨h257, h0⟩]; rfl) (by simp) (Ext.refl _ _)
  · have : (l.getD 0 0).toNat ≠ 0 := fun h => h0 (UInt8.toNat_inj.mp h)
    rw [show ((((l.getD 0 0).toNat : Nat) : Int) == 0) = false by rw [beq_eq_false_iff_ne]; omega, br_false]
    exact expand_k3 (fun h => h0 h.2) hlen hQ

theorem expP_length {l p : List UInt8} (h : expP l = some p) : p.length = 256 := by
  unfold expP at h
  split at h
  · rename_i hl
    simp only [Option.some.injEq] at h
    rw [← h, List.length_drop]; omega
  split at h
  · cases h
  split at h
  · rename_i ws hu
    simp only [Option.some.injEq] at h
    rw [← h, flat_length, unp_length _ _ _ _ _ _ _ hu]
  · cases h

theorem decompress_c {l : List UInt8} (hlen : l.length ≤ 1000000) (hQ : ∀ w', Ext w w' (fun _ => False) → Q (.tuple #[.string (mkS (back (expP l) l).1), .int .i64 (back (expP l) l).2]) w') :
    CallE Try.prog 47 #[.string (mkS l)] w Q := by
  apply C.pagezip_Decompress
  unfold W.pagezip_Decompress
  refine expand_c hlen fun t b w1 h1 h2 e1 => ⟨_, _, rfl, ?_⟩
  cases b with
  | false =>
    simp only [Bool.not_false, br_true]
    have := hQ w1 e1
    rw [h2 rfl] at this
    exact this
  | true =>
    simp only [Bool.not_true, br_false]
    have hE := h1 rfl
    rw [hE] at hQ
    refine compress_c (expP_length hE) fun w2 e2 => ⟨_, _, rfl, ?_⟩
    rw [show ((0 : Int) != 0) = false from rfl, br_false]
    refine rq_r s_ne ?_
    rw [fB_bool]
    have fin := hQ w2 (e1.tr e2)
    unfold back at fin
    dsimp only at fin
    by_cases hc : comp t = l
    · rw [if_pos hc] at fin
      rw [decide_eq_true hc, Bool.not_true, br_false]
      exact fin
    · rw [if_neg hc] at fin
      rw [decide_eq_false hc, Bool.not_false, br_true]
      exact fin
end
end Go.Proofs.Ytpgekajgbkbpkaa.Pz
