/-
  Page compression: contracts of the program's Compress. No condition beyond those stated.
-/
import Derived.Test.YtpgekajgbkbpkaaPzB
import Derived.Test.YtpgekajgbkbpkaaBld
namespace Go.Proofs.Ytpgekajgbkbpkaa.Pz
open Go Go.Ev Go.Proofs

def dcells (d : List Nat) : List Value := d.map fun (n : Nat) => .int .u32 (n : Int)
theorem dcells_length (d : List Nat) : (dcells d).length = d.length := by simp [dcells]
theorem dcells_get (d : List Nat) (i : Nat) : (dcells d)[i]? = (d[i]?).map fun (n : Nat) => Value.int .u32 (n : Int) := by simp [dcells]
theorem dcells_set (d : List Nat) (i n : Nat) : (dcells d).set i (.int .u32 (n : Int)) = dcells (d.set i n) := by simp [dcells, List.map_set]
theorem dcells_getD {d : List Nat} {i : Nat} (h : i < d.length) : (dcells d)[i]? = some (.int .u32 ((d.getD i 0 : Nat) : Int)) := by
  rw [dcells_get, List.getD_eq_getElem?_getD, List.getElem?_eq_getElem h]; rfl

theorem slot_int (n : Nat) (h : n < 4294967296) : Int.tmod (IntKind.wrap .i64 (Int.fdiv (n : Int) (2 ^ 16))) 16 = (slot n : Int) := by
  rw [fdiv16, wrap_i64 (by omega) (by omega)]
  rfl

theorem fine_getD {d : List Nat} (h : Fine d) (i : Nat) : d.getD i 0 < 4294967296 := by
  rw [List.getD_eq_getElem?_getD]
  cases hg : d[i]? with
  | none => simp
  | some x => simpa using h.2 x (List.mem_of_getElem? hg)

section
variable {w : World} {Q : Value → World → Prop}

theorem slotOf_c {n : Nat} (h : n < 4294967296) (hQ : Q (.int .i64 (slot n : Int)) w) : CallE Try.prog 42 #[.int .u32 (n : Int)] w Q := by
  apply C.pagezip_slotOf
  unfold W.pagezip_slotOf
  rw [slot_int n h]
  exact hQ

theorem wordAt_c {l : List UInt8} (h : 4 ≤ l.length) (hQ : ∀ w', Ext w w' (fun _ => False) → Q (.int .u32 (word l : Int)) w') : CallE Try.prog 40 #[.string (mkS l)] w Q := by
  apply C.pagezip_wordAt
  unfold W.pagezip_wordAt
  show dr w _
  unfold dr
  refine rq_r (sx (by omega) (by omega)) ?_
  rw [fI_int]
  refine rq_r (sx (by omega) (by omega)) ?_
  rw [fI_int]
  refine rq_r (sx (by omega) (by omega)) ?_
  rw [fI_int]
  refine rq_r (sx (by omega) (by omega)) ?_
  rw [fI_int, word_or]
  have := hQ (drew w) (Ext.refl _ _).drew_
  rw [word_get h] at this
  exact this

theorem tag_c {db : Nat} {d : List Nat} {T : TypeId} {n : Nat} (hd : At w db (dcells d) T) (hf : Fine d) (h : n < 4294967296) (hQ : ∀ w', Ext w w' (fun _ => False) → Q (.int .i64 (tag d n : Int)) w') :
    CallE Try.prog 41 #[.pointer (some ⟨db, 0, none⟩), .int .u32 (n : Int)] w Q := by
  apply C.pagezip_dictionary_tag
  unfold W.pagezip_dictionary_tag
  refine ⟨fun w' => At w' db (dcells d) T, hd, ?_⟩
  refine slotOf_c h ?_
  rw [fI_int]
  refine ⟨hd, ?_⟩
  have hs := slot_lt n
  refine ixS_arr 16 1 23 (by omega) (by omega) ?_
  rw [fA_ptr, Int.toNat_natCast, add_mk, Nat.zero_add, Nat.mul_one]
  refine ldS_i (fun w h => h) (dcells_getD (by rw [hf.1]; exact hs)) ?_
  rw [fI_int]
  have fin := hQ (drew w) (Ext.refl _ _).drew_
  unfold tag at fin
  by_cases h0 : n = 0
  · rw [if_pos h0] at fin
    rw [show ((n : Int) == 0) = true by simp [h0], br_true]
    exact fin
  rw [if_neg h0] at fin
  rw [show ((n : Int) == 0) = false by simp [h0], br_false]
  by_cases h1 : n = d.getD (slot n) 0
  · rw [if_pos h1] at fin
    rw [show ((n : Int) == ((d.getD (slot n) 0 : Nat) : Int)) = true by rw [beq_iff_eq]; omega, br_true]
    exact fin
  rw [if_neg h1] at fin
  rw [show ((n : Int) == ((d.getD (slot n) 0 : Nat) : Int)) = false by rw [beq_eq_false_iff_ne]; omega, br_false, fdiv16, fdiv16]
  by_cases h2 : n / 65536 = d.getD (slot n) 0 / 65536
  · rw [if_pos h2] at fin
    rw [show (((n / 65536 : Nat) : Int) == ((d.getD (slot n) 0 / 65536 : Nat) : Int)) = true by rw [beq_iff_eq]; omega, br_true]
    exact fin
  · rw [if_neg h2] at fin
    rw [show (((n / 65536 : Nat) : Int) == ((d.getD (slot n) 0 / 65536 : Nat) : Int)) = false by rw [beq_eq_false_iff_ne]; omega, br_false]
    exact fin

theorem learn_c {db : Nat} {d : List Nat} {T : TypeId} {n : Nat} (hd : At w db (dcells d) T) (hf : Fine d) (h : n < 4294967296) (hQ : ∀ w', At w' db (dcells (learn d n)) T → Ext w w' (· = db) → w'.heap.size = w.heap.size → Q (.tuple #[]) w') :
    CallE Try.prog 43 #[.pointer (some ⟨db, 0, none⟩), .int .u32 (n : Int)] w Q := by
  apply C.pagezip_dictionary_learn
  unfold W.pagezip_dictionary_learn
  unfold learn at hQ
  by_cases h0 : n = 0
  · rw [if_pos h0] at hQ
    rw [show ((n : Int) != 0) = false by simp [h0], br_false]
    exact hQ w hd (Ext.refl _ _) rfl
  rw [if_neg h0] at hQ
  rw [show ((n : Int) != 0) = true by simp [h0], br_true]
  refine ⟨fun _ => True, trivial, ?_⟩
  refine slotOf_c h ?_
  rw [fI_int]
  refine ⟨trivial, ?_⟩
  have hs := slot_lt n
  refine ixS_arr 16 1 23 (by omega) (by omega) ?_
  rw [fA_ptr, Int.toNat_natCast, add_mk, Nat.zero_add, Nat.mul_one]
  refine st_i (w := drew w) hd (by rw [dcells_length, hf.1]; exact hs) fun w1 a1 e1 z1 => ⟨trivial, ?_⟩
  rw [dcells_set] at a1
  exact hQ w1 a1 e1.of_drew z1

theorem by_set (l : List UInt8) (i : Nat) (x : UInt8) : (by_ l).set i (.int .u8 (x.toNat : Int)) = by_ (l.set i x) := by simp [by_, List.map_set]

/-- A few bytes onto a slice of bytes. -/
theorem al_ap {cs : Array Value} {bs l : List UInt8} {a : Option Addr} {n c k k' : Nat} {K : Option Addr → Nat → Nat → World → Prop} (hcs : cs.toList = by_ bs) (hk : bs.length = k) (hs : Sl w 5 1 a n c (by_ l)) (hn : n + k ≤ 1000000)
    (hK : ∀ a' c' w', Sl w' 5 1 a' (n + k) c' (by_ (l ++ bs)) → (∀ b, a' = some ⟨b, 0, none⟩ → a = some ⟨b, 0, none⟩ ∨ w.heap.size ≤ b) → Ext w w' (fun b => a = some ⟨b, 0, none⟩) → K a' (n + k) c' w') :
    al 5 cs w fun x w1 => rv Try.prog (Builtin.append_ #[26, 26] 26 #[.slice a n c, .slice (some x) k k']) w1 fun v w2 => fS v fun l1 l2 l3 => K l1 l2 l3 w2 := by
  refine al_i fun b w1 hb a1 e1 z1 => ?_
  rw [hcs] at a1
  refine ap_i 5 1 (hs.ext e1 (fun _ _ h => h)) (vs := by_ bs) (.inr ⟨_, rfl, fun j hj => by rw [add_mk, a1.cell, Nat.zero_add]⟩) (by rw [by_length, hk, Nat.mul_one]) (by_one bs) (by omega) fun a' c' w2 s2 hor _ e2 => ?_
  rw [fS_slice]
  rw [← by_append] at s2
  refine hK a' c' w2 s2 (fun b' hb' => ?_) (e1.trans e2 (fun _ _ h => h.elim) (fun _ _ h => h))
  rcases hor b' hb' with h | h
  · exact .inl h
  · exact .inr (by have := e1.size; omega)

theorem zero_dict : (zeroT Try.prog 78).cells.toList = dcells d0 := by kernel_rfl
theorem zero_tags : (zeroT Try.prog 79).cells.toList = by_ (List.replicate 16 0) := by kernel_rfl

/-- The byte of tags, with one tag more. -/
theorem tag_byte {ts : List Nat} {t i : Nat} (hts : ∀ x ∈ ts, x < 4) (ht : t < 4) (hl : ts.length = i) (hi : i < 64) :
    bor .u8 (((pk ts)[i / 4]'(by rw [pk_length]; omega)).toNat : Int) (IntKind.wrap .u8 (IntKind.wrap .i64 ((t : Int) * 2 ^ (IntKind.wrap .i64 (2 * (Int.tmod (i : Int) 4))).toNat))) = ((UInt8.ofNat (tb ts (i / 4) + t * 4 ^ (i % 4))).toNat : Int) := by
  have h1 : (pk ts)[i / 4]'(by rw [pk_length]; omega) = UInt8.ofNat (tb ts (i / 4)) := by simp [pk]
  have hlow := tb_low hts
  rw [hl] at hlow
  have hm : i % 4 < 4 := Nat.mod_lt _ (by omega)
  have h2 : IntKind.wrap .i64 (2 * (Int.tmod (i : Int) 4)) = ((2 * (i % 4) : Nat) : Int) := by
    rw [show Int.tmod (i : Int) 4 = ((i % 4 : Nat) : Int) from rfl, wrap_i64 (by omega) (by omega)]
    push_cast; rfl
  have h4 : (4 : Nat) ^ (i % 4) = 2 ^ (2 * (i % 4)) := by rw [Nat.pow_mul]
  have h5 : (4 : Nat) ^ (i % 4) ≤ 64 := by
    rcases (show i % 4 = 0 ∨ i % 4 = 1 ∨ i % 4 = 2 ∨ i % 4 = 3 by omega) with h | h | h | h <;> rw [h] <;> decide
  have h6 : t * 4 ^ (i % 4) ≤ 192 := Nat.le_trans (Nat.mul_le_mul (show t ≤ 3 by omega) h5) (by omega)
  rw [h1, h2, Int.toNat_natCast, UInt8.toNat_ofNat', Nat.mod_eq_of_lt (tb_lt hts _)]
  rw [show (t : Int) * 2 ^ (2 * (i % 4)) = ((t * 4 ^ (i % 4) : Nat) : Int) by rw [h4, Int.natCast_mul, Int.natCast_pow]; rfl]
  have h7 : (t + 1) * 4 ^ (i % 4) ≤ 4 * 64 := Nat.mul_le_mul (by omega) h5
  rw [Nat.add_mul, Nat.one_mul] at h7
  rw [wrap_i64 (by omega) (by omega), wrap_u8n (by omega), bor_u8 (tb_lt hts _) (by omega)]
  have h8 : tb ts (i / 4) ||| t * 4 ^ (i % 4) = tb ts (i / 4) + t * 4 ^ (i % 4) := by
    have := or_add (tb ts (i / 4)) t (2 * (i % 4)) (by rw [← h4]; exact hlow)
    rwa [← h4] at this
  rw [h8, UInt8.toNat_ofNat']
  congr 1
  exact (Nat.mod_eq_of_lt (by omega)).symm

theorem words_get (l : List UInt8) {i : Nat} (hi : i < 64) : (words l)[i]'(by rw [words_length]; exact hi) = word (l.drop (4 * i)) := by simp [words]
theorem run_take (l : List UInt8) {i : Nat} (hi : i < 64) (d : List Nat) : run d ((words l).take (i + 1)) = (learn (run d ((words l).take i)).1 (word (l.drop (4 * i))), (run d ((words l).take i)).2.1 ++ [tag (run d ((words l).take i)).1 (word (l.drop (4 * i)))], (run d ((words l).take i)).2.2 ++ body (run d ((words l).take i)).1 (word (l.drop (4 * i)))) := by
  rw [List.take_succ_eq_append_getElem (by rw [words_length]; exact hi), words_get l hi, run_snoc]

/-- What holds after i words. -/
structure Cmp (U w : World) (db tb : Nat) (la : Option Addr) (n c : Nat) (r : List Nat × List Nat × List UInt8) : Prop where
  d : At w db (dcells r.1) 78
  t : At w tb (by_ (pk r.2.1)) 79
  s : Sl w 5 1 la n c (by_ r.2.2)
  n : n = r.2.2.length
  ne : db ≠ tb
  lo : U.heap.size ≤ db ∧ U.heap.size ≤ tb
  sb : ∀ b, la = some ⟨b, 0, none⟩ → b ≠ db ∧ b ≠ tb ∧ U.heap.size ≤ b
  e : Ext U w (fun _ => False)

theorem compress_k19 {U : World} {db tb : Nat} {la : Option Addr} {n c i : Nat} {l : List UInt8} {d ts : List Nat} {bd : List UInt8} {x : Nat} {next : ((Option Addr × Nat × Nat) × Int × Unit) → World → Prop}
    (h : Cmp U w db tb la n c (d, ts, bd)) (hf : Fine d) (hx : x < 4294967296) (hi : i < 64)
    (hn : ∀ w', Cmp U w' db tb la n c (learn d x, ts, bd) → next ((la, n, c), ((i + 1 : Nat) : Int), ()) w') :
    W.pagezip_Compress_k19 (mkS l) ⟨db, 0, none⟩ ⟨tb, 0, none⟩ la n c (x : Int) (i : Int) next w Q := by
  unfold W.pagezip_Compress_k19
  refine learn_c h.d hf hx fun w1 a1 e1 z1 => ⟨rfl, ?_⟩
  rw [wrap_i64 (by omega) (by omega)]
  exact hn w1 ⟨a1, h.t.ext e1 (Ne.symm h.ne), h.s.ext e1 (fun b hb hx => (h.sb b hb).1 hx), h.n, h.ne, h.lo, h.sb, h.e.trans e1 (fun _ _ h => h) (fun b' hb' hx => by have := h.lo.1; omega)⟩

theorem Cmp.app {U w w1 : World} {db tb : Nat} {la la' : Option Addr} {n n' c c' : Nat} {d ts : List Nat} {bd bs : List UInt8} (h : Cmp U w db tb la n c (d, ts, bd)) (hs : Sl w1 5 1 la' n' c' (by_ (bd ++ bs))) (hn : n' = n + bs.length) (hor : ∀ b, la' = some ⟨b, 0, none⟩ → la = some ⟨b, 0, none⟩ ∨ w.heap.size ≤ b) (e : Ext w w1 (fun b => la = some ⟨b, 0, none⟩)) :
    Cmp U w1 db tb la' n' c' (d, ts, bd ++ bs) := by
  have h1 := h.d.lt; have h2 := h.t.lt; have h3 := h.e.size
  refine ⟨h.d.ext e (fun hx => (h.sb _ hx).1 rfl), h.t.ext e (fun hx => (h.sb _ hx).2.1 rfl), hs, by rw [hn, h.n]; simp, h.ne, h.lo, fun b hb => ?_, h.e.trans e (fun _ _ h => h) (fun b' hb' hx => by have := (h.sb _ hx).2.2; omega)⟩
  rcases hor b hb with hx | hx
  · exact h.sb b hx
  · exact ⟨by omega, by omega, by omega⟩

/-- The last step: the form's byte, the tags, the rest; in whatever order they are made. -/
theorem compress_k21 {U : World} {db tb : Nat} {la : Option Addr} {n c : Nat} {l : List UInt8} (hl : l.length = 256) (h : Cmp U w db tb la n c (run d0 (words l)))
    (hQ : ∀ w', Ext U w' (fun _ => False) → Q (.tuple #[.string (mkS (comp l)), .int .i64 0]) w') :
    W.pagezip_Compress_k21 (mkS l) ⟨tb, 0, none⟩ la n c w Q := by
  unfold W.pagezip_Compress_k21
  have hbl := run_body_le (words l) d0
  rw [words_length] at hbl
  have hn := h.n
  have hpl := pk_length (run d0 (words l)).2.1
  unfold comp at hQ
  rw [wrap_i64 (by omega) (by omega)]
  by_cases hgt : 17 + (run d0 (words l)).2.2.length > 256
  · rw [if_pos hgt] at hQ
    rw [decide_eq_true (by omega), br_true]
    refine al_i fun b w1 hb a1 e1 z1 => ?_
    refine bs_str (l := [0]) (.inr ⟨_, rfl, fun j hj => by rw [add_mk, a1.cell, Nat.zero_add]; rfl⟩) rfl ?_
    rw [fT_str]
    refine rq_r (s_add (by simp [hl])) ?_
    rw [fT_str]
    exact hQ w1 (h.e.tr e1)
  rw [if_neg hgt] at hQ
  rw [decide_eq_false (by omega), br_false]
  generalize hts : (run d0 (words l)).2.1 = ts at *
  generalize hbd : (run d0 (words l)).2.2 = bd at *
  have ht0 := h.t; have hs0 := h.s
  rw [hts] at ht0
  rw [hbd] at hs0
  have I0 : At w tb (by_ (pk ts)) 79 ∧ Sl w 5 1 la n c (by_ bd) ∧ Ext U w (fun _ => False) := ⟨ht0, hs0, h.e⟩
  have I1 : At (drew w) tb (by_ (pk ts)) 79 ∧ Sl (drew w) 5 1 la n c (by_ bd) ∧ Ext U (drew w) (fun _ => False) := ⟨ht0, hs0, h.e.drew_⟩
  generalize drew w = wd at I1 ⊢
  have aL : ∀ (w' : World) (K : Addr → World → Prop), (At w' tb (by_ (pk ts)) 79 ∧ Sl w' 5 1 la n c (by_ bd) ∧ Ext U w' (fun _ => False)) → (∀ b w'', (At w'' tb (by_ (pk ts)) 79 ∧ Sl w'' 5 1 la n c (by_ bd) ∧ Ext U w'' (fun _ => False)) → At w'' b (by_ [1]) 5 → K ⟨b, 0, none⟩ w'') → al 5 #[.int .u8 1] w' K := by
    intro w' K hI hK
    refine al_i fun b w1 hb a1 e1 z1 => hK b w1 ⟨hI.1.ext e1 (fun h => h), hI.2.1.ext e1 (fun _ _ h => h), hI.2.2.tr e1⟩ a1
  have cT : ∀ (w' : World) (K : ByteArray → World → Prop), (At w' tb (by_ (pk ts)) 79 ∧ Sl w' 5 1 la n c (by_ bd) ∧ Ext U w' (fun _ => False)) → K (mkS (pk ts)) w' → rv Try.prog (convert 26 9 (.slice (some ⟨tb, 0, none⟩) 16 16)) w' fun v w1 => fT v fun t => K t w1 := by
    intro w' K hI hK
    refine bs_str (l := pk ts) (.inr ⟨_, rfl, fun j hj => by rw [add_mk, hI.1.cell, Nat.zero_add]⟩) hpl ?_
    rw [fT_str]
    exact hK
  have cB : ∀ (w' : World) (K : ByteArray → World → Prop), (At w' tb (by_ (pk ts)) 79 ∧ Sl w' 5 1 la n c (by_ bd) ∧ Ext U w' (fun _ => False)) → K (mkS bd) w' → rv Try.prog (convert 26 9 (.slice la n c)) w' fun v w1 => fT v fun t => K t w1 := by
    intro w' K hI hK
    refine bs_str (l := bd) hI.2.1.reads hn.symm ?_
    rw [fT_str]
    exact hK
  have cL : ∀ (b : Nat) (w' : World) (K : ByteArray → World → Prop), At w' b (by_ [1]) 5 → K (mkS [1]) w' → rv Try.prog (convert 26 9 (.slice (some ⟨b, 0, none⟩) 1 1)) w' fun v w1 => fT v fun t => K t w1 := by
    intro b w' K hI hK
    refine bs_str (l := [1]) (.inr ⟨_, rfl, fun j hj => by rw [add_mk, hI.cell, Nat.zero_add]⟩) rfl ?_
    rw [fT_str]
    exact hK
  have ad : ∀ (a b : List UInt8) (x y : Operand) (K : ByteArray → Prop), a.length + b.length < 1000000 → K (mkS (a ++ b)) → rqS Try.prog (fun _ => True) (do eqGuard .add 9 x y (.string (mkS a)) (.string (mkS b)); binOp .add 9 (.string (mkS a)) (.string (mkS b))) fun v => fT v fun t => K t := by
    intro a b x y K hlt hK
    refine rqS_r (s_add (by omega)) ?_
    rw [fT_str]
    exact hK
  have fin : ∀ w', (At w' tb (by_ (pk ts)) 79 ∧ Sl w' 5 1 la n c (by_ bd) ∧ Ext U w' (fun _ => False)) → Q (.tuple #[.string (mkS (([1] ++ pk ts) ++ bd)), .int .i64 0]) w' := by
    intro w' hI
    exact hQ w' hI.2.2
  refine ⟨fun _ => True, trivial, ?_⟩
  refine rqS_r (a_all 16) ?_
  rw [fS_slice]
  repeat' first
    | exact trivial
    | refine fin _ (by assumption)
    | refine aL _ _ (by assumption) fun _ _ _ _ => ?_
    | refine cT _ _ (by assumption) ?_
    | refine cB _ _ (by assumption) ?_
    | refine cL _ _ _ (by assumption) ?_
    | refine cL _ _ _ (At.ext (by assumption) (by assumption) (fun h => h)) ?_
    | refine ad _ _ _ _ _ (by simp only [List.length_append, List.length_cons, List.length_nil, hpl]; omega) ?_
    | refine And.intro ?_ ?_

theorem compress_c {l : List UInt8} (hl : l.length = 256) (hQ : ∀ w', Ext w w' (fun _ => False) → Q (.tuple #[.string (mkS (comp l)), .int .i64 0]) w') :
    CallE Try.prog 34 #[.string (mkS l)] w Q := by
  apply C.pagezip_Compress
  unfold W.pagezip_Compress
  rw [mkS_size, hl, show (((256 : Nat) : Int) != 256) = false from rfl, br_false]
  refine al_i fun db w1 hdb a1 e1 z1 => ?_
  rw [zero_dict] at a1
  refine al_i fun tb w2 htb a2 e2 z2 => ?_
  rw [zero_tags] at a2
  refine LoopW.nat 64 (fun i x w' => ∃ la n c, x = ((la, n, c), (i : Int), ()) ∧ Cmp w w' db tb la n c (run d0 ((words l).take i)))
    ⟨none, 0, 0, rfl, a1.ext e2 (fun h => h), by rw [show (run d0 (List.take 0 (words l))).2.1 = [] from rfl, pk_nil]; exact a2, .inl ⟨rfl, rfl, rfl, rfl⟩, rfl, by omega, by omega, (fun b hb => by cases hb), e1.tr e2⟩ ?_
  rintro i x w3 next hi ⟨la, n, c, rfl, h⟩ hnext
  dsimp only
  by_cases hlt : i < 64
  case neg =>
    rw [decide_eq_false (by omega), br_false]
    rw [List.take_of_length_le (by rw [words_length]; omega)] at h
    exact compress_k21 hl h hQ
  rw [decide_eq_true (by omega), br_true]
  have hrun := run_take l hlt d0
  have hfine := fine_run ((words l).take i) d0 fine_d0 (fun x hx => words_lt l x (List.mem_of_mem_take hx))
  have htl := run_tags_length ((words l).take i) d0
  have htlt := run_tags_lt ((words l).take i) d0
  have hble := run_body_le ((words l).take i) d0
  rw [List.length_take, words_length, Nat.min_eq_left (by omega)] at htl hble
  generalize hr : run d0 ((words l).take i) = r at *
  obtain ⟨d, ts, bd⟩ := r
  dsimp only at *
  have hxlt := word_lt (l.drop (4 * i))
  rw [wrap_i64 (by omega) (by omega)]
  refine rq_r (s_lo (by omega) (by omega)) ?_
  rw [fT_str, show (4 * (i : Int)).toNat = 4 * i by omega]
  refine wordAt_c (by rw [List.length_drop]; omega) fun w4 e4 => ?_
  rw [fI_int]
  have hdr := h.e.size
  refine tag_c (h.d.ext e4 (fun h => h)) hfine hxlt fun w5 e5 => ?_
  rw [fI_int]
  have e35 := e4.tr e5
  generalize word (l.drop (4 * i)) = x at *
  have htag := tag_lt d x
  generalize htg : tag d x = t at *
  show dr w5 _
  unfold dr
  have hq : IntKind.wrap .i64 (Int.tdiv (i : Int) 4) = ((i / 4 : Nat) : Int) := by
    rw [show Int.tdiv (i : Int) 4 = ((i / 4 : Nat) : Int) from rfl, wrap_i64 (by omega) (by omega)]
  have h2m : IntKind.wrap .i64 (2 * (Int.tmod (i : Int) 4)) = ((2 * (i % 4) : Nat) : Int) := by
    rw [show Int.tmod (i : Int) 4 = ((i % 4 : Nat) : Int) from rfl, wrap_i64 (by omega) (by omega)]
    push_cast; rfl
  rw [hq]
  have hpl := pk_length ts
  have t5 : At (drew w5) tb (by_ (pk ts)) 79 := h.t.ext e35.drew_ (fun h => h)
  refine ix_arr (w := drew w5) 16 1 5 (by omega) (by omega) ?_
  rw [fA_ptr, Int.toNat_natCast, add_mk, Nat.zero_add, Nat.mul_one]
  refine ld_i t5 (by rw [by_get, List.getElem?_eq_getElem (show i / 4 < (pk ts).length by omega)]; rfl) ?_
  rw [fI_int]
  refine rq_r (shl_i (by omega) (by rw [h2m]; show _ ≤ ((64 : Nat) : Int); omega)) ?_
  rw [fI_int]
  refine ix_arr (w := drew w5) 16 1 5 (by omega) (by omega) ?_
  rw [fA_ptr, Int.toNat_natCast, add_mk, Nat.zero_add, Nat.mul_one]
  refine st_i t5 (by rw [by_length]; omega) fun w6 a6 e6 z6 => ?_
  rw [tag_byte htlt htag htl hlt] at a6
  have a6' : At w6 tb (by_ (pk (ts ++ [t]))) 79 := by
    rw [pk_snoc (by omega), htl]
    rw [by_set] at a6
    exact a6
  have e36 : Ext w3 w6 (· = tb) := (e35.drew_.of0 (X := (· = tb))).tr e6
  have hC : Cmp w w6 db tb la n c (d, ts ++ [t], bd) := ⟨h.d.ext e36 h.ne, a6', h.s.ext e36 (fun b hb hx => (h.sb b hb).2.1 hx), h.n, h.ne, h.lo, h.sb, h.e.trans e36 (fun _ _ h => h) (fun b' hb' hx => by have := h.lo.2; omega)⟩
  have hnn : n = bd.length := h.n
  have step : ∀ {w7 : World} {la' : Option Addr} {n' c' : Nat} {bs : List UInt8}, bs = body d x → Cmp w w7 db tb la' n' c' (d, ts ++ [t], bd ++ bs) → W.pagezip_Compress_k19 (mkS l) ⟨db, 0, none⟩ ⟨tb, 0, none⟩ la' n' c' (x : Int) (i : Int) next w7 Q := by
    intro w7 la' n' c' bs hbs h7
    refine compress_k19 h7 hfine hxlt hlt fun w8 h8 => ?_
    refine hnext hlt _ _ ⟨la', n', c', rfl, ?_⟩
    rw [hrun, ← hbs]
    exact h8
  have hslot := slot_lt x
  rcases (show t = 0 ∨ t = 1 ∨ t = 2 ∨ t = 3 by omega) with ht | ht | ht | ht
  · subst ht
    rw [show (((0 : Nat) : Int) == 1) = false from rfl, br_false, show (((0 : Nat) : Int) == 2) = false from rfl, br_false, show (((0 : Nat) : Int) == 3) = false from rfl, br_false]
    exact step (bs := []) (by unfold body; rw [htg]; rfl) (by rw [List.append_nil]; exact hC)
  · subst ht
    rw [show (((1 : Nat) : Int) == 1) = true from rfl, br_true]
    refine slotOf_c hxlt ?_
    rw [fI_int, wrap_byte]
    refine al_ap (bs := [UInt8.ofNat (slot x)]) rfl rfl hC.s (by omega) fun a' c' w7 s7 hor e7 => ?_
    exact step (by unfold body; rw [htg]; rfl) (hC.app s7 rfl hor e7)
  · subst ht
    rw [show (((2 : Nat) : Int) == 1) = false from rfl, br_false, show (((2 : Nat) : Int) == 2) = true from rfl, br_true]
    refine slotOf_c hxlt ?_
    rw [fI_int, wrap_byte, wrap_byte, fdiv8, wrap_byte]
    refine al_ap (bs := [UInt8.ofNat (slot x), UInt8.ofNat x, UInt8.ofNat (x / 256)]) rfl rfl hC.s (by omega) fun a' c' w7 s7 hor e7 => ?_
    exact step (by unfold body; rw [htg]; rfl) (hC.app s7 rfl hor e7)
  · subst ht
    rw [show (((3 : Nat) : Int) == 1) = false from rfl, br_false, show (((3 : Nat) : Int) == 2) = false from rfl, br_false, show (((3 : Nat) : Int) == 3) = true from rfl, br_true]
    rw [wrap_byte, fdiv8, wrap_byte, fdiv16, wrap_byte, fdiv24, wrap_byte]
    refine al_ap (bs := b4 x) rfl rfl hC.s (by omega) fun a' c' w7 s7 hor e7 => ?_
    exact step (by unfold body; rw [htg]; rfl) (hC.app s7 rfl hor e7)

theorem compress_bad {l : List UInt8} (hl : l.length ≠ 256) (hQ : Q (.tuple #[.string (mkS []), .int .i64 1]) w) : CallE Try.prog 34 #[.string (mkS l)] w Q := by
  apply C.pagezip_Compress
  unfold W.pagezip_Compress
  rw [mkS_size, show (((l.length : Nat) : Int) != 256) = true by simp; omega, br_true]
  exact hQ
end
end Go.Proofs.Ytpgekajgbkbpkaa.Pz
