/-
  Page compression: contracts of the reference's Compress, unpack and Decompress. No condition beyond those stated.
-/
import Derived.Test.YtpgekajgbkbpkaaPzD
import Derived.Test.YtpgekajgbkbpkaaQ
namespace Go.Proofs.Ytpgekajgbkbpkaa.Pz
open Go Go.Ev Go.Proofs

theorem getD_drop (l : List UInt8) (n j : Nat) : (l.drop n).getD j 0 = l.getD (n + j) 0 := by
  rw [List.getD_eq_getElem?_getD, List.getD_eq_getElem?_getD, List.getElem?_drop]
theorem word_at (l : List UInt8) (n : Nat) : word (l.drop n) = (l.getD n 0).toNat + (l.getD (n + 1) 0).toNat * 256 + (l.getD (n + 2) 0).toNat * 65536 + (l.getD (n + 3) 0).toNat * 16777216 := by
  simp only [word, getD_drop, Nat.add_zero]
theorem pk_snoc0 (ts : List Nat) : pk (ts ++ [0]) = pk ts := by
  have h : ∀ i, (ts ++ [0]).getD i 0 = ts.getD i 0 := by
    intro i
    rw [getD_snoc]
    split
    · rename_i h; subst h; rw [getD_ge _ (Nat.le_refl _)]
    · rfl
  unfold pk tb
  simp only [h]
theorem idx_i64 {a : Nat} (h : a ≤ 1000000000) (j : Nat) (hj : j ≤ 1000000000) : IntKind.wrap .i64 ((a : Int) + (j : Int)) = ((a + j : Nat) : Int) := by
  rw [wrap_i64 (by omega) (by omega)]; push_cast; rfl
theorem two_mod (i : Nat) : IntKind.wrap .u64 (IntKind.wrap .i64 (2 * (Int.tmod (i : Int) 4))) = ((2 * (i % 4) : Nat) : Int) := by
  rw [show Int.tmod (i : Int) 4 = ((i % 4 : Nat) : Int) from rfl, wrap_i64 (by omega) (by omega), wrap_u64 (by omega) (by omega)]
  push_cast; rfl
theorem pow_two_mod (i : Nat) : ((2 : Int) ^ (2 * (i % 4))) = ((4 ^ (i % 4) : Nat) : Int) := by
  rw [show (4 : Nat) ^ (i % 4) = 2 ^ (2 * (i % 4)) by rw [Nat.pow_mul], Int.natCast_pow]; rfl
theorem pow4_le (i : Nat) : 4 ^ (i % 4) ≤ 64 := by
  rcases (show i % 4 = 0 ∨ i % 4 = 1 ∨ i % 4 = 2 ∨ i % 4 = 3 by omega) with h | h | h | h <;> rw [h] <;> decide

/-- The byte of tags, with one tag more, by a sum. -/
theorem tag_sum {ts : List Nat} {t i : Nat} (hts : ∀ x ∈ ts, x < 4) (ht : t < 4) (hl : ts.length = i) :
    IntKind.wrap .u8 (((UInt8.ofNat (tb ts (i / 4))).toNat : Int) + IntKind.wrap .u8 ((t : Int) * 2 ^ (((2 * (i % 4) : Nat) : Int)).toNat)) = ((UInt8.ofNat (tb ts (i / 4) + t * 4 ^ (i % 4))).toNat : Int) := by
  have hlow := tb_low hts
  rw [hl] at hlow
  have h5 := pow4_le i
  have h7 : (t + 1) * 4 ^ (i % 4) ≤ 4 * 64 := Nat.mul_le_mul (by omega) h5
  rw [Nat.add_mul, Nat.one_mul] at h7
  rw [Int.toNat_natCast, pow_two_mod, ← Int.natCast_mul, UInt8.toNat_ofNat', UInt8.toNat_ofNat']
  generalize t * 4 ^ (i % 4) = q at *
  generalize tb ts (i / 4) = p at *
  rw [wrap_u8', wrap_u8']
  omega
theorem slot_u32 (n : Nat) : Int.tmod (Int.fdiv (n : Int) (2 ^ 16)) 16 = (slot n : Int) := by
  rw [fdiv16]; rfl

section
variable {w : World} {Q : Value → World → Prop}

/-- What holds after i words. -/
structure CmpR (U w : World) (db tb : Nat) (la : Option Addr) (n c : Nat) (r : List Nat × List Nat × List UInt8) : Prop where
  d : At w db (dcells r.1) 62
  t : At w tb (by_ (pk r.2.1)) 5
  s : Sl w 5 1 la n c (by_ r.2.2)
  n : n = r.2.2.length
  ne : db ≠ tb
  lo : U.heap.size ≤ db ∧ U.heap.size ≤ tb
  sb : ∀ b, la = some ⟨b, 0, none⟩ → b ≠ db ∧ b ≠ tb ∧ U.heap.size ≤ b
  e : Ext U w (fun _ => False)

theorem CmpR.app {U w w1 : World} {db tb : Nat} {la la' : Option Addr} {n n' c c' : Nat} {d ts : List Nat} {bd bs : List UInt8} (h : CmpR U w db tb la n c (d, ts, bd)) (hs : Sl w1 5 1 la' n' c' (by_ (bd ++ bs))) (hn : n' = n + bs.length) (hor : ∀ b, la' = some ⟨b, 0, none⟩ → la = some ⟨b, 0, none⟩ ∨ w.heap.size ≤ b) (e : Ext w w1 (fun b => la = some ⟨b, 0, none⟩)) :
    CmpR U w1 db tb la' n' c' (d, ts, bd ++ bs) := by
  have h1 := h.d.lt; have h2 := h.t.lt; have h3 := h.e.size
  refine ⟨h.d.ext e (fun hx => (h.sb _ hx).1 rfl), h.t.ext e (fun hx => (h.sb _ hx).2.1 rfl), hs, by rw [hn, h.n]; simp, h.ne, h.lo, fun b hb => ?_, h.e.trans e (fun _ _ h => h) (fun b' hb' hx => by have := (h.sb _ hx).2.2; omega)⟩
  rcases hor b hb with hx | hx
  · exact h.sb b hx
  · exact ⟨by omega, by omega, by omega⟩

theorem refCompress_k20 {U : World} {db tb' : Nat} {la : Option Addr} {n c i : Nat} {l : List UInt8} {d ts : List Nat} {bd : List UInt8} {x t : Nat} {next : ((Option Addr × Nat × Nat) × Int × Unit) → World → Prop}
    (h : CmpR U w db tb' la n c (d, ts, bd)) (hf : Fine d) (hts : ∀ x ∈ ts, x < 4) (htl : ts.length = i) (ht : t < 4) (hx0 : x ≠ 0) (hi : i < 64)
    (hn : ∀ w', CmpR U w' db tb' la n c (learn d x, ts ++ [t], bd) → next ((la, n, c), ((i + 1 : Nat) : Int), ()) w') :
    W.ref33_Compress_k20 (mkS l) ⟨db, 0, none⟩ (some ⟨tb', 0, none⟩) 16 16 la n c (i : Int) (x : Int) (slot x : Int) (t : Int) next w Q := by
  unfold W.ref33_Compress_k20
  have hpl := pk_length ts
  have hs := slot_lt x
  rw [show IntKind.wrap .i64 (Int.tdiv (i : Int) 4) = ((i / 4 : Nat) : Int) by rw [show Int.tdiv (i : Int) 4 = ((i / 4 : Nat) : Int) from rfl, wrap_nat (by omega)], two_mod]
  refine ixb (i / 4) 1 5 (by omega) ?_
  refine ldI h.t (x := ((UInt8.ofNat (tb ts (i / 4))).toNat : Int)) ?_ ?_
  · rw [Nat.mul_one, by_get]
    have : (pk ts)[i / 4]? = some (UInt8.ofNat (tb ts (i / 4))) := by
      simp only [pk, List.getElem?_map, List.getElem?_range (show i / 4 < 16 by omega)]; rfl
    rw [this]; rfl
  refine qI (shl_i (by omega) (by show _ ≤ ((8 : Nat) : Int); omega)) ?_
  refine ixb (i / 4) 1 5 (by omega) ?_
  rw [tag_sum hts ht htl]
  refine st_i h.t (by rw [by_length]; show i / 4 * 1 < (pk ts).length; omega) fun w1 a1 e1 z1 => ?_
  rw [by_set, Nat.mul_one] at a1
  have a1' : At w1 tb' (by_ (pk (ts ++ [t]))) 5 := by rw [pk_snoc (by omega), htl]; exact a1
  have d1 := h.d.ext e1 h.ne
  refine ixa (slot x) 16 1 23 hs ?_
  refine st_i d1 (by rw [dcells_length]; show _ < d.length; rw [hf.1]; omega) fun w2 a2 e2 z2 => ?_
  rw [dcells_set, Nat.mul_one] at a2
  rw [inc_nat (by omega)]
  have e12 : Ext w w2 (fun b => b = db ∨ b = tb') := e1.trans e2 (fun _ _ h => .inr h) (fun _ _ h => .inl h)
  refine hn w2 ⟨?_, a1'.ext e2 (Ne.symm h.ne), h.s.ext e12 (fun b hb hx => by rcases hx with hx | hx; exact (h.sb b hb).1 hx; exact (h.sb b hb).2.1 hx), h.n, h.ne, h.lo, h.sb, h.e.trans e12 (fun _ _ h => h) (fun b' hb' hx => by have := h.lo; omega)⟩
  unfold learn
  rw [if_neg hx0]
  exact a2

theorem zero_dictR : (zeroT Try.prog 62).cells.toList = dcells d0 := by kernel_rfl

theorem refCompress_c {l : List UInt8} (hl : l.length = 256) (hQ : ∀ w', Ext w w' (fun _ => False) → Q (.tuple #[.string (mkS (comp l)), .int .i64 0]) w') :
    CallE Try.prog 35 #[.string (mkS l)] w Q := by
  apply C.ref33_Compress
  unfold W.ref33_Compress
  rw [mkS_size, hl, show (((256 : Nat) : Int) != 256) = false from rfl, br_false]
  refine al_i fun db w1 hdb a1 e1 z1 => ?_
  rw [zero_dictR] at a1
  refine mkB (n := 16) 5 (by omega) fun tb' w2 htb a2 e2 z2 => ?_
  refine LoopW.nat 64 (fun i x w' => ∃ la n c, x = ((la, n, c), (i : Int), ()) ∧ CmpR w w' db tb' la n c (run d0 ((words l).take i)))
    ⟨none, 0, 0, rfl, a1.ext e2 (fun h => h), by rw [show (run d0 (List.take 0 (words l))).2.1 = [] from rfl, pk_nil]; exact a2, .inl ⟨rfl, rfl, rfl, rfl⟩, rfl, by omega, by omega, (fun b hb => by cases hb), e1.tr e2⟩ ?_
  rintro i x w3 next hi ⟨la, n, c, rfl, h⟩ hnext
  dsimp only
  by_cases hlt : i < 64
  case neg =>
    rw [decide_eq_false (by omega), br_false]
    rw [List.take_of_length_le (by rw [words_length]; omega)] at h
    unfold W.ref33_Compress_k22
    have hbl := run_body_le (words l) d0
    rw [words_length] at hbl
    have hn := h.n
    have hpl := pk_length (run d0 (words l)).2.1
    unfold comp at hQ
    rw [show (17 : Int) + ((n : Nat) : Int) = ((17 + n : Nat) : Int) by push_cast; rfl, wrap_nat (by omega)]
    by_cases hgt : 17 + (run d0 (words l)).2.2.length > 256
    · rw [if_pos hgt] at hQ
      rw [decide_eq_true (by omega), br_true]
      refine qT (s_add (a := [0]) (by simp [hl])) ?_
      exact hQ w3 h.e
    rw [if_neg hgt] at hQ
    rw [decide_eq_false (by omega), br_false]
    refine bsT h.t hpl ?_
    refine qT (s_add (a := [1]) (by simp [hpl])) ?_
    refine slT h.s hn.symm ?_
    refine qT (s_add (by simp [hpl]; omega)) ?_
    exact hQ w3 h.e
  rw [decide_eq_true (by omega), br_true]
  have hrun := run_take l hlt d0
  have hfine := fine_run ((words l).take i) d0 fine_d0 (fun x hx => words_lt l x (List.mem_of_mem_take hx))
  have htl := run_tags_length ((words l).take i) d0
  have htlt := run_tags_lt ((words l).take i) d0
  have hble := run_body_le ((words l).take i) d0
  rw [List.length_take, words_length, Nat.min_eq_left (by omega)] at htl hble
  generalize hr : run d0 ((words l).take i) = r at *
  obtain ⟨d, ts, bd⟩ := r
  dsimp only at *
  have hxlt := word_lt (l.drop (4 * i))
  rw [show IntKind.wrap .i64 (4 * (i : Int)) = ((4 * i : Nat) : Int) by rw [wrap_i64 (by omega) (by omega)]; push_cast; rfl]
  rw [show IntKind.wrap .i64 (((4 * i : Nat) : Int) + 1) = ((4 * i + 1 : Nat) : Int) from idx_i64 (by omega) 1 (by omega), show IntKind.wrap .i64 (((4 * i : Nat) : Int) + 2) = ((4 * i + 2 : Nat) : Int) from idx_i64 (by omega) 2 (by omega), show IntKind.wrap .i64 (((4 * i : Nat) : Int) + 3) = ((4 * i + 3 : Nat) : Int) from idx_i64 (by omega) 3 (by omega)]
  show dr w3 _
  unfold dr
  refine qI (sxn (4 * i) (by omega)) ?_
  refine qI (sxn (4 * i + 1) (by omega)) ?_
  refine qI (sxn (4 * i + 2) (by omega)) ?_
  refine qI (sxn (4 * i + 3) (by omega)) ?_
  simp only [word_add]
  rw [← word_at]
  have hC : CmpR w (drew w3) db tb' la n c (d, ts, bd) := ⟨h.d, h.t, h.s, h.n, h.ne, h.lo, h.sb, h.e.drew_⟩
  generalize drew w3 = wd at *
  generalize word (l.drop (4 * i)) = x at *
  by_cases hx0 : x = 0
  · subst hx0
    rw [show (((0 : Nat) : Int) == 0) = true from rfl, br_true, inc_nat (by omega)]
    refine hnext hlt _ _ ⟨la, n, c, rfl, ?_⟩
    rw [hrun, show learn d 0 = d from rfl, show tag d 0 = 0 by simp [tag], show body d 0 = [] by simp [body, tag], List.append_nil]
    exact ⟨hC.d, by rw [pk_snoc0]; exact hC.t, hC.s, hC.n, hC.ne, hC.lo, hC.sb, hC.e⟩
  rw [show ((x : Int) == 0) = false by rw [beq_eq_false_iff_ne]; omega, br_false]
  simp only [slot_u32]
  have hslot := slot_lt x
  have hnn : n = bd.length := h.n
  have step : ∀ {w7 : World} {la' : Option Addr} {n' c' t : Nat} {bs : List UInt8}, t = tag d x → bs = body d x → CmpR w w7 db tb' la' n' c' (d, ts, bd ++ bs) → W.ref33_Compress_k20 (mkS l) ⟨db, 0, none⟩ (some ⟨tb', 0, none⟩) 16 16 la' n' c' (i : Int) (x : Int) (slot x : Int) (t : Int) next w7 Q := by
    intro w7 la' n' c' t bs ht hbs h7
    refine refCompress_k20 h7 hfine htlt htl (by rw [ht]; exact tag_lt d x) hx0 hlt fun w8 h8 => ?_
    refine hnext hlt _ _ ⟨la', n', c', rfl, ?_⟩
    rw [hrun, ← hbs, ← ht]
    exact h8
  refine ixa (slot x) 16 1 23 hslot ?_
  refine ldI hC.d (by rw [Nat.mul_one]; exact dcells_getD (by rw [hfine.1]; exact hslot)) ?_
  have htag : tag d x = if x = d.getD (slot x) 0 then 1 else if x / 65536 = d.getD (slot x) 0 / 65536 then 2 else 3 := by unfold tag; rw [if_neg hx0]
  by_cases h1 : x = d.getD (slot x) 0
  · rw [if_pos h1] at htag
    rw [show (((d.getD (slot x) 0 : Nat) : Int) == (x : Int)) = true by rw [beq_iff_eq]; omega, br_true, wrap_byte]
    refine al_ap (bs := [UInt8.ofNat (slot x)]) rfl rfl hC.s (by omega) fun a' c' w7 s7 hor e7 => ?_
    exact step htag.symm (by unfold body; rw [htag]; rfl) (hC.app s7 rfl hor e7)
  rw [if_neg h1] at htag
  rw [show (((d.getD (slot x) 0 : Nat) : Int) == (x : Int)) = false by rw [beq_eq_false_iff_ne]; omega, br_false]
  refine ixa (slot x) 16 1 23 hslot ?_
  refine ldI hC.d (by rw [Nat.mul_one]; exact dcells_getD (by rw [hfine.1]; exact hslot)) ?_
  rw [fdiv16, fdiv16]
  by_cases h2 : x / 65536 = d.getD (slot x) 0 / 65536
  · rw [if_pos h2] at htag
    rw [show (((d.getD (slot x) 0 / 65536 : Nat) : Int) == ((x / 65536 : Nat) : Int)) = true by rw [beq_iff_eq]; omega, br_true, wrap_byte, wrap_byte, fdiv8, wrap_byte]
    refine al_ap (bs := [UInt8.ofNat (slot x), UInt8.ofNat x, UInt8.ofNat (x / 256)]) rfl rfl hC.s (by omega) fun a' c' w7 s7 hor e7 => ?_
    exact step htag.symm (by unfold body; rw [htag]; rfl) (hC.app s7 rfl hor e7)
  · rw [if_neg h2] at htag
    rw [show (((d.getD (slot x) 0 / 65536 : Nat) : Int) == ((x / 65536 : Nat) : Int)) = false by rw [beq_eq_false_iff_ne]; omega, br_false]
    rw [wrap_byte, fdiv8, wrap_byte, wrap_byte, fdiv24, wrap_byte]
    refine al_ap (bs := b4 x) rfl rfl hC.s (by omega) fun a' c' w7 s7 hor e7 => ?_
    exact step htag.symm (by unfold body; rw [htag]; rfl) (hC.app s7 rfl hor e7)

theorem refCompress_bad {l : List UInt8} (hl : l.length ≠ 256) (hQ : Q (.tuple #[.string (mkS []), .int .i64 1]) w) : CallE Try.prog 35 #[.string (mkS l)] w Q := by
  apply C.ref33_Compress
  unfold W.ref33_Compress
  rw [mkS_size, show (((l.length : Nat) : Int) != 256) = true by simp; omega, br_true]
  exact hQ
end
end Go.Proofs.Ytpgekajgbkbpkaa.Pz
