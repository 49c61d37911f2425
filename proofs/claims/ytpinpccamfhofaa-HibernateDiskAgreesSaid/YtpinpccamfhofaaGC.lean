/-
  Several texts in one (PzA, PzB, PzN, PzP, PzD, PzE, PzK), each with its own word below. No condition beyond those stated.
-/
import Derived.Test.YtpinpccamfhofaaGA
import Derived.Test.YtpinpccamfhofaaGB
set_option linter.unusedVariables false
set_option linter.unusedSimpArgs false
/-
  Page compression: the plain form. No program in sight.
-/
set_option maxRecDepth 100000
namespace Go.Proofs.Ytpinpccamfhofaa.Pz
open Go Go.Ev

def b4 (w : Nat) : List UInt8 := [UInt8.ofNat w, UInt8.ofNat (w / 256), UInt8.ofNat (w / 65536), UInt8.ofNat (w / 16777216)]
def word (l : List UInt8) : Nat := (l.getD 0 0).toNat + (l.getD 1 0).toNat * 256 + (l.getD 2 0).toNat * 65536 + (l.getD 3 0).toNat * 16777216
def slot (w : Nat) : Nat := w / 65536 % 16
def tag (d : List Nat) (w : Nat) : Nat :=
  if w = 0 then 0 else if w = d.getD (slot w) 0 then 1 else if w / 65536 = d.getD (slot w) 0 / 65536 then 2 else 3
def body (d : List Nat) (w : Nat) : List UInt8 :=
  if tag d w = 1 then [UInt8.ofNat (slot w)] else if tag d w = 2 then [UInt8.ofNat (slot w), UInt8.ofNat w, UInt8.ofNat (w / 256)] else if tag d w = 3 then b4 w else []
def learn (d : List Nat) (w : Nat) : List Nat := if w = 0 then d else d.set (slot w) w

/-- The dictionary, the tags and the rest after some words. -/
def run : List Nat → List Nat → List Nat × List Nat × List UInt8
  | d, [] => (d, [], [])
  | d, w :: ws => ((run (learn d w) ws).1, tag d w :: (run (learn d w) ws).2.1, body d w ++ (run (learn d w) ws).2.2)

/-- 16 bytes of tags. -/
def tb (ts : List Nat) (j : Nat) : Nat := ts.getD (4 * j) 0 + ts.getD (4 * j + 1) 0 * 4 + ts.getD (4 * j + 2) 0 * 16 + ts.getD (4 * j + 3) 0 * 64
def pk (ts : List Nat) : List UInt8 := (List.range 16).map fun j => UInt8.ofNat (tb ts j)

def d0 : List Nat := List.replicate 16 0
def words (p : List UInt8) : List Nat := (List.range 64).map fun i => word (p.drop (4 * i))
def comp (p : List UInt8) : List UInt8 :=
  if 17 + (run d0 (words p)).2.2.length > 256 then 0 :: p else 1 :: (pk (run d0 (words p)).2.1 ++ (run d0 (words p)).2.2)

theorem run_snoc : ∀ (ws : List Nat) (d : List Nat) (w : Nat), run d (ws ++ [w]) = (learn (run d ws).1 w, (run d ws).2.1 ++ [tag (run d ws).1 w], (run d ws).2.2 ++ body (run d ws).1 w)
  | [], d, w => by simp [run]
  | x :: ws, d, w => by
    simp only [List.cons_append, run, run_snoc ws]
    simp
theorem run_tags_length : ∀ (ws d : List Nat), (run d ws).2.1.length = ws.length
  | [], d => rfl
  | w :: ws, d => by simp [run, run_tags_length ws]
theorem learn_length (d : List Nat) (w : Nat) : (learn d w).length = d.length := by unfold learn; split <;> simp
theorem run_dict_length : ∀ (ws d : List Nat), (run d ws).1.length = d.length
  | [], d => rfl
  | w :: ws, d => by simp [run, run_dict_length ws, learn_length]
theorem tag_lt (d : List Nat) (w : Nat) : tag d w < 4 := by unfold tag; split; omega; split; omega; split <;> omega
theorem run_tags_lt : ∀ (ws d : List Nat), ∀ t ∈ (run d ws).2.1, t < 4
  | [], d, t, h => by simp [run] at h
  | w :: ws, d, t, h => by
    simp only [run, List.mem_cons] at h
    rcases h with rfl | h
    · exact tag_lt d w
    · exact run_tags_lt ws _ t h
theorem slot_lt (w : Nat) : slot w < 16 := Nat.mod_lt _ (by omega)
theorem pk_length (ts : List Nat) : (pk ts).length = 16 := by simp [pk]

theorem word_lt (l : List UInt8) : word l < 4294967296 := by
  unfold word
  have h0 := (l.getD 0 0).toNat_lt; have h1 := (l.getD 1 0).toNat_lt; have h2 := (l.getD 2 0).toNat_lt; have h3 := (l.getD 3 0).toNat_lt
  omega
theorem body_le (d : List Nat) (w : Nat) : (body d w).length ≤ 4 := by
  unfold body b4
  split
  · simp
  split
  · simp
  split <;> simp
theorem run_body_le : ∀ (ws d : List Nat), (run d ws).2.2.length ≤ 4 * ws.length
  | [], d => by simp [run]
  | w :: ws, d => by
    simp only [run, List.length_append, List.length_cons]
    have := run_body_le ws (learn d w)
    have := body_le d w
    omega

/-- All dictionary words are words. -/
def Fine (d : List Nat) : Prop := d.length = 16 ∧ ∀ x ∈ d, x < 4294967296
theorem fine_d0 : Fine d0 := ⟨by simp [d0], fun x hx => by simp [d0] at hx; omega⟩
theorem fine_learn {d : List Nat} {w : Nat} (h : Fine d) (hw : w < 4294967296) : Fine (learn d w) := by
  refine ⟨by rw [learn_length]; exact h.1, ?_⟩
  unfold learn
  split
  · exact h.2
  · intro x hx
    rcases List.mem_or_eq_of_mem_set hx with h' | rfl
    · exact h.2 x h'
    · exact hw
theorem fine_run : ∀ (ws d : List Nat), Fine d → (∀ w ∈ ws, w < 4294967296) → Fine (run d ws).1
  | [], d, h, _ => h
  | w :: ws, d, h, hw => by
    simp only [run]
    exact fine_run ws _ (fine_learn h (hw w (by simp))) (fun x hx => hw x (by simp [hx]))
theorem words_lt (p : List UInt8) : ∀ w ∈ words p, w < 4294967296 := by
  intro w hw
  simp only [words, List.mem_map] at hw
  obtain ⟨i, _, rfl⟩ := hw
  exact word_lt _
theorem words_length (p : List UInt8) : (words p).length = 64 := by simp [words]

theorem comp_length {p : List UInt8} (h : p.length = 256) : 17 ≤ (comp p).length ∧ (comp p).length ≤ 257 := by
  unfold comp
  split
  · simp [h]
  · simp [pk_length]; omega
theorem comp_ne {p : List UInt8} : comp p ≠ [] := by unfold comp; split <;> simp

/- One byte of tags more. -/
theorem getD_snoc (ts : List Nat) (t i : Nat) : (ts ++ [t]).getD i 0 = if i = ts.length then t else ts.getD i 0 := by
  simp only [List.getD_eq_getElem?_getD]
  by_cases h : i < ts.length
  · rw [List.getElem?_append_left h, if_neg (by omega)]
  · by_cases h2 : i = ts.length
    · subst h2; simp
    · rw [if_neg h2, List.getElem?_eq_none (by simp; omega), List.getElem?_eq_none (by omega)]
theorem getD_ge (ts : List Nat) {i : Nat} (h : ts.length ≤ i) : ts.getD i 0 = 0 := by
  simp [List.getD_eq_getElem?_getD, List.getElem?_eq_none h]
theorem getD_lt {ts : List Nat} (h : ∀ t ∈ ts, t < 4) (i : Nat) : ts.getD i 0 < 4 := by
  rw [List.getD_eq_getElem?_getD]
  cases hg : ts[i]? with
  | none => simp
  | some x => simpa using h x (List.mem_of_getElem? hg)

theorem tb_snoc_ne (ts : List Nat) (t j : Nat) (h : j ≠ ts.length / 4) : tb (ts ++ [t]) j = tb ts j := by
  unfold tb
  simp only [getD_snoc]
  rw [if_neg (by omega), if_neg (by omega), if_neg (by omega), if_neg (by omega)]
theorem tb_snoc_eq (ts : List Nat) (t : Nat) : tb (ts ++ [t]) (ts.length / 4) = tb ts (ts.length / 4) + t * 4 ^ (ts.length % 4) := by
  unfold tb
  simp only [getD_snoc]
  have hm : ts.length % 4 < 4 := Nat.mod_lt _ (by omega)
  have hd := Nat.div_add_mod ts.length 4
  generalize ts.length / 4 = q at *
  generalize hr : ts.length % 4 = r at *
  have z : ∀ i, ts.length ≤ i → ts.getD i 0 = 0 := fun i h => getD_ge ts h
  rcases (show r = 0 ∨ r = 1 ∨ r = 2 ∨ r = 3 by omega) with rfl | rfl | rfl | rfl
  · rw [if_pos (by omega), if_neg (by omega), if_neg (by omega), if_neg (by omega), z (4 * q) (by omega)]; omega
  · rw [if_neg (by omega), if_pos (by omega), if_neg (by omega), if_neg (by omega), z (4 * q + 1) (by omega)]; omega
  · rw [if_neg (by omega), if_neg (by omega), if_pos (by omega), if_neg (by omega), z (4 * q + 2) (by omega)]; omega
  · rw [if_neg (by omega), if_neg (by omega), if_neg (by omega), if_pos (by omega), z (4 * q + 3) (by omega)]; omega
theorem tb_low {ts : List Nat} (h : ∀ t ∈ ts, t < 4) : tb ts (ts.length / 4) < 4 ^ (ts.length % 4) := by
  unfold tb
  have hm : ts.length % 4 < 4 := Nat.mod_lt _ (by omega)
  have hd := Nat.div_add_mod ts.length 4
  have a := getD_lt h
  generalize ts.length / 4 = q at *
  generalize hr : ts.length % 4 = r at *
  have z : ∀ i, ts.length ≤ i → ts.getD i 0 = 0 := fun i h => getD_ge ts h
  have a0 := a (4 * q); have a1 := a (4 * q + 1); have a2 := a (4 * q + 2)
  rcases (show r = 0 ∨ r = 1 ∨ r = 2 ∨ r = 3 by omega) with rfl | rfl | rfl | rfl
  · rw [z (4 * q) (by omega), z (4 * q + 1) (by omega), z (4 * q + 2) (by omega), z (4 * q + 3) (by omega)]; omega
  · rw [z (4 * q + 1) (by omega), z (4 * q + 2) (by omega), z (4 * q + 3) (by omega)]; omega
  · rw [z (4 * q + 2) (by omega), z (4 * q + 3) (by omega)]; omega
  · rw [z (4 * q + 3) (by omega)]; omega
theorem tb_lt {ts : List Nat} (h : ∀ t ∈ ts, t < 4) (j : Nat) : tb ts j < 256 := by
  unfold tb
  have a := getD_lt h
  have a0 := a (4 * j); have a1 := a (4 * j + 1); have a2 := a (4 * j + 2); have a3 := a (4 * j + 3)
  omega
theorem pk_snoc {ts : List Nat} {t : Nat} (hl : ts.length < 64) : pk (ts ++ [t]) = (pk ts).set (ts.length / 4) (UInt8.ofNat (tb ts (ts.length / 4) + t * 4 ^ (ts.length % 4))) := by
  apply List.ext_getElem
  · simp [pk]
  · intro j h1 h2
    simp only [pk, List.length_map, List.length_range] at h1
    rw [List.getElem_set]
    split
    · rename_i h; subst h; simp [pk, tb_snoc_eq]
    · rename_i h; simp [pk, tb_snoc_ne ts t j (Ne.symm h)]
theorem pk_nil : pk [] = List.replicate 16 0 := by decide +kernel

/- The way back. -/
def tagAt (tg : List UInt8) (i : Nat) : Nat := (tg.getD (i / 4) 0).toNat / 4 ^ (i % 4) % 4
def size (t : Nat) : Nat := if t = 1 then 1 else if t = 2 then 3 else if t = 3 then 4 else 0
/-- The word with a tag at the beginning. -/
def dec (d : List Nat) (t : Nat) (r : List UInt8) : Option Nat :=
  if r.length < size t then none
  else if t = 0 then some 0
  else if t = 3 then some (word r)
  else if (r.getD 0 0).toNat ≥ 16 then none
  else if t = 2 then some (d.getD (r.getD 0 0).toNat 0 / 65536 * 65536 + (r.getD 1 0).toNat + (r.getD 2 0).toNat * 256)
  else some (d.getD (r.getD 0 0).toNat 0)
/-- n words from the i-th on. -/
def unp (tg : List UInt8) : Nat → Nat → List Nat → List UInt8 → Option (List Nat × List UInt8)
  | 0, _, _, r => some ([], r)
  | n + 1, i, d, r => match dec d (tagAt tg i) r with
    | none => none
    | some w => match unp tg n (i + 1) (learn d w) (r.drop (size (tagAt tg i))) with
      | none => none
      | some (ws, r') => some (w :: ws, r')

def flat (ws : List Nat) : List UInt8 := ws.flatMap b4
/-- What the program expands, and what the reference does. -/
def expP (s : List UInt8) : Option (List UInt8) :=
  if s.length = 257 ∧ s.getD 0 0 = 0 then some (s.drop 1)
  else if s.length < 17 ∨ s.length > 256 ∨ s.getD 0 0 ≠ 1 then none
  else match unp ((s.take 17).drop 1) 64 0 d0 (s.drop 17) with
    | some (ws, []) => some (flat ws)
    | _ => none
def expR (s : List UInt8) : Option (List UInt8) :=
  if s.length = 257 ∧ s.getD 0 0 = 0 then some (s.drop 1)
  else if s.length < 17 ∨ s.getD 0 0 ≠ 1 then none
  else match unp ((s.take 17).drop 1) 64 0 d0 (s.drop 17) with
    | some (ws, _) => some (flat ws)
    | none => none
def back (e : Option (List UInt8)) (s : List UInt8) : List UInt8 × Int :=
  match e with
  | some p => if comp p = s then (p, 0) else ([], 3)
  | none => ([], 3)

theorem b4_get (w : Nat) (hw : w < 4294967296) (r : List UInt8) : word (b4 w ++ r) = w := by
  simp only [word, b4, List.cons_append, List.getD_cons_zero, List.getD_cons_succ, UInt8.toNat_ofNat']
  omega
theorem b4_length (w : Nat) : (b4 w).length = 4 := rfl
theorem ofNat_getD0 (x : UInt8) (r : List UInt8) : (x :: r).getD 0 0 = x := rfl

theorem size_body (d : List Nat) (w : Nat) : (body d w).length = size (tag d w) := by
  unfold body size
  have := tag_lt d w
  split
  · simp
  split
  · simp
  split
  · rfl
  · rfl

theorem dec_body {d : List Nat} {w : Nat} (hw : w < 4294967296) (r : List UInt8) : dec d (tag d w) (body d w ++ r) = some w := by
  have hsz := size_body d w
  unfold dec
  rw [if_neg (by rw [List.length_append]; omega)]
  have hs := slot_lt w
  have hsu : (UInt8.ofNat (slot w)).toNat = slot w := by rw [UInt8.toNat_ofNat']; omega
  by_cases h0 : tag d w = 0
  · rw [if_pos h0]
    unfold tag at h0
    split at h0
    · rename_i h; rw [h]
    · split at h0
      · cases h0
      · split at h0 <;> cases h0
  rw [if_neg h0]
  by_cases h3 : tag d w = 3
  · rw [if_pos h3]
    unfold body
    rw [if_neg (by omega), if_neg (by omega), if_pos h3, b4_get w hw]
  rw [if_neg h3]
  have ht : tag d w = 1 ∨ tag d w = 2 := by have := tag_lt d w; omega
  rcases ht with h1 | h2
  · have hb : body d w = [UInt8.ofNat (slot w)] := by unfold body; rw [if_pos h1]
    rw [hb]
    simp only [List.cons_append, List.nil_append, List.getD_cons_zero, hsu]
    rw [if_neg (by omega), if_neg (by omega)]
    unfold tag at h1
    split at h1
    · cases h1
    · split at h1
      · rename_i h; rw [← h]
      · split at h1 <;> cases h1
  · have hb : body d w = [UInt8.ofNat (slot w), UInt8.ofNat w, UInt8.ofNat (w / 256)] := by unfold body; rw [if_neg (by omega), if_pos h2]
    rw [hb]
    simp only [List.cons_append, List.nil_append, List.getD_cons_zero, List.getD_cons_succ, hsu, UInt8.toNat_ofNat']
    rw [if_neg (by omega), if_pos h2]
    unfold tag at h2
    split at h2
    · cases h2
    · split at h2
      · cases h2
      · split at h2
        · rename_i h
          rw [← h]
          congr 1
          omega
        · cases h2

theorem unp_run (tg : List UInt8) : ∀ (ws : List Nat) (i : Nat) (d : List Nat) (r : List UInt8), (∀ w ∈ ws, w < 4294967296) → (∀ k (h : k < ws.length), tagAt tg (i + k) = (run d ws).2.1[k]'(by rw [run_tags_length]; exact h)) →
    unp tg ws.length i d ((run d ws).2.2 ++ r) = some (ws, r)
  | [], i, d, r, _, _ => by simp [unp, run]
  | w :: ws, i, d, r, hw, ht => by
    have h0 := ht 0 (by simp)
    simp only [Nat.add_zero, run, List.getElem_cons_zero] at h0
    have ih := unp_run tg ws (i + 1) (learn d w) r (fun x hx => hw x (by simp [hx])) (fun k hk => by
      have := ht (k + 1) (by simp; omega)
      simp only [run, List.getElem_cons_succ] at this
      rw [← this]
      congr 1
      omega)
    simp only [List.length_cons, unp, h0, run, List.append_assoc]
    rw [dec_body (hw w (by simp))]
    dsimp only
    rw [← size_body, List.drop_left, ih]

theorem tb_digit (ts : List Nat) (h : ∀ t ∈ ts, t < 4) (i : Nat) : tb ts (i / 4) / 4 ^ (i % 4) % 4 = ts.getD i 0 := by
  unfold tb
  have a := getD_lt h
  have hm : i % 4 < 4 := Nat.mod_lt _ (by omega)
  have hd := Nat.div_add_mod i 4
  generalize i / 4 = q at *
  have a0 := a (4 * q); have a1 := a (4 * q + 1); have a2 := a (4 * q + 2); have a3 := a (4 * q + 3)
  rcases (show i % 4 = 0 ∨ i % 4 = 1 ∨ i % 4 = 2 ∨ i % 4 = 3 by omega) with hr | hr | hr | hr
  · rw [hr, show i = 4 * q by omega]; omega
  · rw [hr, show i = 4 * q + 1 by omega]; omega
  · rw [hr, show i = 4 * q + 2 by omega]; omega
  · rw [hr, show i = 4 * q + 3 by omega]; omega
theorem tagAt_pk {ts : List Nat} (h : ∀ t ∈ ts, t < 4) {i : Nat} (hi : i < 64) : tagAt (pk ts) i = ts.getD i 0 := by
  unfold tagAt
  have : (pk ts).getD (i / 4) 0 = UInt8.ofNat (tb ts (i / 4)) := by
    rw [List.getD_eq_getElem?_getD, List.getElem?_eq_getElem (by rw [pk_length]; omega)]
    simp [pk]
  rw [this, UInt8.toNat_ofNat', Nat.mod_eq_of_lt (tb_lt h _), tb_digit ts h]

theorem b4_word (l : List UInt8) (h : 4 ≤ l.length) : b4 (word l) = l.take 4 := by
  match l, h with
  | a :: b :: c :: d :: r, _ =>
    have h0 := a.toNat_lt; have h1 := b.toNat_lt; have h2 := c.toNat_lt; have h3 := d.toNat_lt
    simp only [b4, word, List.getD_cons_zero, List.getD_cons_succ, List.take_succ_cons, List.take_zero, List.cons.injEq, and_true]
    refine ⟨?_, ?_, ?_, ?_⟩ <;> (apply UInt8.toNat_inj.mp; rw [UInt8.toNat_ofNat']; omega)
theorem flat_words_aux (p : List UInt8) : ∀ n, 4 * n ≤ p.length → ((List.range n).map fun i => word (p.drop (4 * i))).flatMap b4 = p.take (4 * n)
  | 0, _ => by simp
  | n + 1, h => by
    rw [List.range_succ, List.map_append, List.flatMap_append, flat_words_aux p n (by omega)]
    simp only [List.map_cons, List.map_nil, List.flatMap_cons, List.flatMap_nil, List.append_nil]
    rw [b4_word _ (by rw [List.length_drop]; omega), show 4 * (n + 1) = 4 * n + 4 by omega, List.take_add]
theorem flat_words {p : List UInt8} (h : p.length = 256) : flat (words p) = p := by
  unfold flat words
  rw [flat_words_aux p 64 (by omega), List.take_of_length_le (by omega)]
theorem word_b4 (w : Nat) (hw : w < 4294967296) (r : List UInt8) : word (b4 w ++ r) = w := b4_get w hw r

/-- What comes back from a packed form. -/
theorem unp_packed (p : List UInt8) : unp (pk (run d0 (words p)).2.1) 64 0 d0 (run d0 (words p)).2.2 = some (words p, []) := by
  have hl := words_length p
  have := unp_run (pk (run d0 (words p)).2.1) (words p) 0 d0 [] (words_lt p) (fun k hk => by
    rw [Nat.zero_add, tagAt_pk (run_tags_lt _ _) (by omega), List.getD_eq_getElem?_getD, List.getElem?_eq_getElem (by rw [run_tags_length]; exact hk)]
    rfl)
  rwa [hl, List.append_nil] at this

theorem parts_packed (ts : List Nat) (bd : List UInt8) : ((1 :: (pk ts ++ bd)).take 17).drop 1 = pk ts ∧ (1 :: (pk ts ++ bd)).drop 17 = bd := by
  have h := pk_length ts
  constructor
  · rw [List.take_succ_cons, List.drop_succ_cons, List.drop_zero, List.take_left' h]
  · rw [List.drop_succ_cons, List.drop_left' h]

theorem expP_comp {p : List UInt8} (h : p.length = 256) : expP (comp p) = some p := by
  unfold comp
  split
  · unfold expP
    rw [if_pos ⟨by simp [h], rfl⟩]
    rfl
  · rename_i hle
    unfold expP
    have hlen : (1 :: (pk (run d0 (words p)).2.1 ++ (run d0 (words p)).2.2)).length = 17 + (run d0 (words p)).2.2.length := by simp [pk_length]; omega
    rw [if_neg (by rw [hlen]; omega), if_neg (by rw [hlen]; simp; omega), (parts_packed _ _).1, (parts_packed _ _).2, unp_packed]
    dsimp only
    rw [flat_words h]
theorem back_comp {p : List UInt8} (h : p.length = 256) : back (expP (comp p)) (comp p) = (p, 0) := by
  rw [expP_comp h]
  unfold back
  dsimp only
  rw [if_pos rfl]

theorem unp_length (tg : List UInt8) : ∀ (n i : Nat) (d : List Nat) (r : List UInt8) (ws : List Nat) (r' : List UInt8), unp tg n i d r = some (ws, r') → ws.length = n
  | 0, i, d, r, ws, r', h => by simp only [unp, Option.some.injEq, Prod.mk.injEq] at h; rw [← h.1]; rfl
  | n + 1, i, d, r, ws, r', h => by
    simp only [unp] at h
    split at h
    · cases h
    · split at h
      · cases h
      · rename_i w _ _ ws' r'' h'
        simp only [Option.some.injEq, Prod.mk.injEq] at h
        rw [← h.1, List.length_cons, unp_length tg n _ _ _ _ _ h']
theorem flat_length (ws : List Nat) : (flat ws).length = 4 * ws.length := by
  unfold flat
  induction ws with
  | nil => rfl
  | cons w ws ih => rw [List.flatMap_cons, List.length_append, ih, b4_length, List.length_cons]; omega

/-- The reference's answer is the program's. -/
theorem back_agrees (s : List UInt8) : back (expR s) s = back (expP s) s := by
  unfold expR expP
  by_cases h1 : s.length = 257 ∧ s.getD 0 0 = 0
  · rw [if_pos h1, if_pos h1]
  rw [if_neg h1, if_neg h1]
  by_cases h2 : s.length < 17 ∨ s.getD 0 0 ≠ 1
  · rw [if_pos h2, if_pos (h2.elim Or.inl (fun h => Or.inr (Or.inr h)))]
  rw [if_neg h2]
  have h17 : 17 ≤ s.length := by omega
  have hs1 : s.getD 0 0 = 1 := by
    rcases Classical.em (s.getD 0 0 = 1) with h | h
    · exact h
    · exact absurd (Or.inr h) h2
  cases hu : unp ((s.take 17).drop 1) 64 0 d0 (s.drop 17) with
  | none =>
    dsimp only
    split <;> rfl
  | some x =>
    obtain ⟨ws, r⟩ := x
    dsimp only
    have hws := unp_length _ _ _ _ _ _ _ hu
    have hfl : (flat ws).length = 256 := by rw [flat_length, hws]
    by_cases hc : comp (flat ws) = s
    · -- then the string is a packed form, and nothing is left over
      have hle : ¬ 17 + (run d0 (words (flat ws))).2.2.length > 256 := by
        intro hgt
        unfold comp at hc
        rw [if_pos hgt] at hc
        rw [← hc] at hs1
        simp at hs1
      have hcc := hc
      unfold comp at hcc
      rw [if_neg hle] at hcc
      have hp := parts_packed (run d0 (words (flat ws))).2.1 (run d0 (words (flat ws))).2.2
      rw [hcc] at hp
      rw [hp.1, hp.2, unp_packed] at hu
      simp only [Option.some.injEq, Prod.mk.injEq] at hu
      have hr : r = [] := hu.2.symm
      subst hr
      have hlen : s.length ≤ 256 := by rw [← hcc]; simp [pk_length]; omega
      rw [if_neg (by rw [hs1]; simp; omega)]
    · have hb : back (some (flat ws)) s = ([], 3) := by unfold back; dsimp only; rw [if_neg hc]
      rw [hb]
      split
      · rfl
      · split
        · rename_i ws' h'
          simp only [Option.some.injEq, Prod.mk.injEq] at h'
          rw [← h'.1, hb]
        · rfl
end Go.Proofs.Ytpinpccamfhofaa.Pz

/-
  Page compression: bits and bytes of the program's operations. No program in sight.
-/
set_option maxRecDepth 100000
namespace Go.Proofs.Ytpinpccamfhofaa.Pz
open Go Go.Ev

theorem wrap_byte (n : Nat) : IntKind.wrap .u8 (n : Int) = ((UInt8.ofNat n).toNat : Int) := by
  rw [UInt8.toNat_ofNat']
  rw [wrap_u8']
  omega
theorem wrap_u8n {n : Nat} (h : n < 256) : IntKind.wrap .u8 (n : Int) = (n : Int) := by rw [wrap_u8']; omega
theorem wrap_u32n {n : Nat} (h : n < 4294967296) : IntKind.wrap .u32 (n : Int) = (n : Int) := by rw [wrap_u32']; omega
theorem fdiv_n (n m : Nat) : Int.fdiv (n : Int) (m : Int) = ((n / m : Nat) : Int) := by
  rw [Int.fdiv_eq_ediv_of_nonneg _ (by omega)]; rfl
theorem fdiv8 (n : Nat) : Int.fdiv (n : Int) (2 ^ 8) = ((n / 256 : Nat) : Int) := fdiv_n n 256
theorem fdiv16 (n : Nat) : Int.fdiv (n : Int) (2 ^ 16) = ((n / 65536 : Nat) : Int) := fdiv_n n 65536
theorem fdiv24 (n : Nat) : Int.fdiv (n : Int) (2 ^ 24) = ((n / 16777216 : Nat) : Int) := fdiv_n n 16777216
theorem tmod_n (n m : Nat) : Int.tmod (n : Int) (m : Int) = ((n % m : Nat) : Int) := rfl
theorem tdiv_n (n m : Nat) : Int.tdiv (n : Int) (m : Int) = ((n / m : Nat) : Int) := rfl

theorem bor_u32 {a b : Nat} (ha : a < 4294967296) (hb : b < 4294967296) : bor .u32 (a : Int) (b : Int) = ((a ||| b : Nat) : Int) := by
  unfold bor
  have : (BitVec.ofInt (IntKind.bits .u32) (a : Int) ||| BitVec.ofInt (IntKind.bits .u32) (b : Int)).toNat = a ||| b := by
    show (BitVec.ofInt 32 (a : Int) ||| BitVec.ofInt 32 (b : Int)).toNat = a ||| b
    rw [BitVec.ofInt_natCast, BitVec.ofInt_natCast, BitVec.toNat_or, BitVec.toNat_ofNat, BitVec.toNat_ofNat]
    rw [Nat.mod_eq_of_lt (by omega), Nat.mod_eq_of_lt (by omega)]
  rw [this, wrap_u32n (Nat.or_lt_two_pow (n := 32) (by omega) (by omega))]
theorem bor_u8 {a b : Nat} (ha : a < 256) (hb : b < 256) : bor .u8 (a : Int) (b : Int) = ((a ||| b : Nat) : Int) := by
  unfold bor
  have : (BitVec.ofInt (IntKind.bits .u8) (a : Int) ||| BitVec.ofInt (IntKind.bits .u8) (b : Int)).toNat = a ||| b := by
    show (BitVec.ofInt 8 (a : Int) ||| BitVec.ofInt 8 (b : Int)).toNat = a ||| b
    rw [BitVec.ofInt_natCast, BitVec.ofInt_natCast, BitVec.toNat_or, BitVec.toNat_ofNat, BitVec.toNat_ofNat]
    rw [Nat.mod_eq_of_lt (by omega), Nat.mod_eq_of_lt (by omega)]
  rw [this, wrap_u8n (Nat.or_lt_two_pow (n := 8) (by omega) (by omega))]
theorem band_u32 {a b : Nat} (ha : a < 4294967296) (hb : b < 4294967296) : band .u32 (a : Int) (b : Int) = ((a &&& b : Nat) : Int) := by
  unfold band
  have : (BitVec.ofInt (IntKind.bits .u32) (a : Int) &&& BitVec.ofInt (IntKind.bits .u32) (b : Int)).toNat = a &&& b := by
    show (BitVec.ofInt 32 (a : Int) &&& BitVec.ofInt 32 (b : Int)).toNat = a &&& b
    rw [BitVec.ofInt_natCast, BitVec.ofInt_natCast, BitVec.toNat_and, BitVec.toNat_ofNat, BitVec.toNat_ofNat]
    rw [Nat.mod_eq_of_lt (by omega), Nat.mod_eq_of_lt (by omega)]
  rw [this, wrap_u32n (Nat.lt_of_le_of_lt Nat.and_le_left ha)]
/-- Or of numbers that share no bits. -/
theorem or_add (a b i : Nat) (h : a < 2 ^ i) : a ||| (b * 2 ^ i) = a + b * 2 ^ i := by
  rw [Nat.or_comm, Nat.mul_comm, ← Nat.two_pow_add_eq_or_of_lt h, Nat.add_comm]

theorem word_or (a b c d : UInt8) : bor .u32 (bor .u32 (bor .u32 (IntKind.wrap .u32 (a.toNat : Int)) (IntKind.wrap .u32 ((IntKind.wrap .u32 (b.toNat : Int)) * 2 ^ 8))) (IntKind.wrap .u32 ((IntKind.wrap .u32 (c.toNat : Int)) * 2 ^ 16))) (IntKind.wrap .u32 ((IntKind.wrap .u32 (d.toNat : Int)) * 2 ^ 24))
    = ((a.toNat + b.toNat * 256 + c.toNat * 65536 + d.toNat * 16777216 : Nat) : Int) := by
  have h0 := a.toNat_lt; have h1 := b.toNat_lt; have h2 := c.toNat_lt; have h3 := d.toNat_lt
  rw [wrap_u32n (n := a.toNat) (by omega), wrap_u32n (n := b.toNat) (by omega), wrap_u32n (n := c.toNat) (by omega), wrap_u32n (n := d.toNat) (by omega)]
  rw [show (b.toNat : Int) * 2 ^ 8 = ((b.toNat * 2 ^ 8 : Nat) : Int) by rw [Int.natCast_mul]; rfl, show (c.toNat : Int) * 2 ^ 16 = ((c.toNat * 2 ^ 16 : Nat) : Int) by rw [Int.natCast_mul]; rfl, show (d.toNat : Int) * 2 ^ 24 = ((d.toNat * 2 ^ 24 : Nat) : Int) by rw [Int.natCast_mul]; rfl]
  rw [wrap_u32n (by omega), wrap_u32n (by omega), wrap_u32n (by omega)]
  rw [bor_u32 (by omega) (by omega), or_add _ _ 8 (by omega), bor_u32 (by omega) (by omega), or_add _ _ 16 (by omega), bor_u32 (by omega) (by omega), or_add _ _ 24 (by omega)]
theorem word_add (a b c d : UInt8) : IntKind.wrap .u32 ((IntKind.wrap .u32 ((IntKind.wrap .u32 ((IntKind.wrap .u32 (a.toNat : Int)) + (IntKind.wrap .u32 ((IntKind.wrap .u32 (b.toNat : Int)) * 2 ^ 8)))) + (IntKind.wrap .u32 ((IntKind.wrap .u32 (c.toNat : Int)) * 2 ^ 16)))) + (IntKind.wrap .u32 ((IntKind.wrap .u32 (d.toNat : Int)) * 2 ^ 24)))
    = ((a.toNat + b.toNat * 256 + c.toNat * 65536 + d.toNat * 16777216 : Nat) : Int) := by
  have h0 := a.toNat_lt; have h1 := b.toNat_lt; have h2 := c.toNat_lt; have h3 := d.toNat_lt
  simp only [wrap_u32']
  omega
theorem word_get {l : List UInt8} (h : 4 ≤ l.length) : word l = (l[0]'(by omega)).toNat + (l[1]'(by omega)).toNat * 256 + (l[2]'(by omega)).toNat * 65536 + (l[3]'(by omega)).toNat * 16777216 := by
  simp only [word, List.getD_eq_getElem?_getD, List.getElem?_eq_getElem (show 0 < l.length by omega), List.getElem?_eq_getElem (show 1 < l.length by omega), List.getElem?_eq_getElem (show 2 < l.length by omega), List.getElem?_eq_getElem (show 3 < l.length by omega), Option.getD_some]
theorem and_hi {x : Nat} (h : x < 4294967296) : x &&& 4294901760 = x / 65536 * 65536 := by
  have : x &&& 4294901760 = x ^^^ (x &&& 65535) := by
    apply Nat.eq_of_testBit_eq
    intro i
    have hx : ∀ i, 32 ≤ i → x.testBit i = false := fun i hi => Nat.testBit_lt_two_pow (Nat.lt_of_lt_of_le h (Nat.pow_le_pow_right (n := 2) (by decide) hi))
    rw [Nat.testBit_and, Nat.testBit_xor, Nat.testBit_and, show (65535 : Nat) = 2 ^ 16 - 1 by rfl, Nat.testBit_two_pow_sub_one]
    by_cases hi : 32 ≤ i
    · rw [hx i hi]; rfl
    · have : (4294901760 : Nat).testBit i = !decide (i < 16) := by
        have : ∀ i : Fin 32, (4294901760 : Nat).testBit i.val = !decide (i.val < 16) := by decide +kernel
        exact this ⟨i, by omega⟩
      rw [this]
      cases x.testBit i <;> cases decide (i < 16) <;> rfl
  rw [this, show (65535 : Nat) = 2 ^ 16 - 1 by rfl, Nat.and_two_pow_sub_one_eq_mod]
  have hm : x % 2 ^ 16 < 2 ^ 16 := Nat.mod_lt _ (by omega)
  have hx : x = (x / 65536 * 2 ^ 16) ||| (x % 2 ^ 16) := by
    rw [Nat.or_comm, or_add _ _ 16 hm]
    omega
  have h2 : (x / 65536 * 2 ^ 16) ||| (x % 2 ^ 16) = (x / 65536 * 2 ^ 16) ^^^ (x % 2 ^ 16) := by
    apply Nat.eq_of_testBit_eq
    intro i
    rw [Nat.testBit_or, Nat.testBit_xor, Nat.testBit_mul_two_pow, Nat.testBit_mod_two_pow]
    by_cases hi : i < 16
    · rw [show decide (i ≥ 16) = false by simp; omega]; simp
    · rw [show decide (i < 16) = false by simp; omega]; simp
  conv => lhs; lhs; rw [hx, h2]
  rw [Nat.xor_assoc, Nat.xor_self, Nat.xor_zero]
end Go.Proofs.Ytpinpccamfhofaa.Pz

/-
  Page compression: the lengths of two kinds of pages, in plain. No program in sight.
-/
set_option maxRecDepth 100000
namespace Go.Proofs.Ytpinpccamfhofaa.Pz
open Go Go.Ev

theorem flat_cons (w : Nat) (ws : List Nat) : flat (w :: ws) = b4 w ++ flat ws := by simp [flat]
theorem flat_drop : ∀ (ws : List Nat) (i : Nat), (flat ws).drop (4 * i) = flat (ws.drop i)
  | ws, 0 => by simp
  | [], i + 1 => by simp [flat]
  | w :: ws, i + 1 => by
    rw [flat_cons, show 4 * (i + 1) = 4 + 4 * i by omega, ← List.drop_drop, List.drop_left' (b4_length w), flat_drop ws i]
    rfl
theorem words_flat {ws : List Nat} (hl : ws.length = 64) (hw : ∀ w ∈ ws, w < 4294967296) : words (flat ws) = ws := by
  apply List.ext_getElem
  · rw [words_length, hl]
  · intro i h1 h2
    simp only [words, List.getElem_map, List.getElem_range]
    rw [flat_drop, List.drop_eq_getElem_cons h2, flat_cons, word_b4 _ (hw _ (List.getElem_mem h2))]

/-- The first j bytes of word k written anew. -/
def setb (l : List UInt8) (k w : Nat) : Nat → List UInt8
  | 0 => l
  | j + 1 => (setb l k w j).set (4 * k + j) (UInt8.ofNat (w / 256 ^ j))
theorem setb_length (l : List UInt8) (k w : Nat) : ∀ j, (setb l k w j).length = l.length
  | 0 => rfl
  | j + 1 => by simp [setb, setb_length l k w j]
theorem setb_flat (w : Nat) : ∀ (ws : List Nat) (k : Nat), setb (flat ws) k w 4 = flat (ws.set k w)
  | [], k => by simp [setb, flat]
  | x :: ws, 0 => by
    rw [List.set_cons_zero, flat_cons, flat_cons]
    simp [setb, b4]
  | x :: ws, k + 1 => by
    rw [List.set_cons_succ, flat_cons, flat_cons, ← setb_flat w ws k]
    simp only [setb]
    have h : ∀ (l : List UInt8) (j : Nat) (v : UInt8), (b4 x ++ l).set (4 * (k + 1) + j) v = b4 x ++ l.set (4 * k + j) v := by
      intro l j v
      rw [List.set_append_right _ _ (by rw [b4_length]; omega), b4_length]
      congr 2
      omega
    rw [h, h, h, h]

/- One word at some places. -/
def pos : Nat → List Bool
  | 0 => List.replicate 64 false
  | m + 1 => (pos m).set (5 * m % 64) true
def sel (w : Nat) (b : Bool) : Nat := if b then w else 0
def wsAt (w m : Nat) : List Nat := (pos m).map (sel w)
theorem pos_count : ∀ m, m < 65 → (pos m).count true = m := by decide +kernel
theorem pos_length : ∀ m, (pos m).length = 64
  | 0 => by simp [pos]
  | m + 1 => by simp [pos, pos_length m]
theorem wsAt_zero (w : Nat) : wsAt w 0 = List.replicate 64 0 := by simp [wsAt, pos, sel]
theorem wsAt_succ (w m : Nat) : wsAt w (m + 1) = (wsAt w m).set (5 * m % 64) w := by simp [wsAt, pos, List.map_set, sel]
theorem wsAt_length (w m : Nat) : (wsAt w m).length = 64 := by simp [wsAt, pos_length]
theorem wsAt_lt {w : Nat} (hw : w < 4294967296) (m : Nat) : ∀ x ∈ wsAt w m, x < 4294967296 := by
  intro x hx
  simp only [wsAt, List.mem_map, sel] at hx
  obtain ⟨b, _, rfl⟩ := hx
  split <;> omega
theorem flat_zero : flat (List.replicate 64 0) = List.replicate 256 0 := by decide +kernel

theorem body_zero (d : List Nat) : body d 0 = [] := by simp [body, tag]
theorem getD_set_self' {d : List Nat} {i v : Nat} (h : i < d.length) : (d.set i v).getD i 0 = v := by
  rw [List.getD_eq_getElem?_getD, List.getElem?_set_self h]; rfl

theorem run_known {w : Nat} (h0 : w ≠ 0) : ∀ (bs : List Bool) (d : List Nat), d.length = 16 → d.getD (slot w) 0 = w → (run d (bs.map (sel w))).2.2.length = bs.count true
  | [], d, _, _ => rfl
  | false :: bs, d, hl, hd => by
    simp only [List.map_cons, sel, run, Bool.false_eq_true, if_false]
    rw [body_zero, show learn d 0 = d from rfl]
    have := run_known h0 bs d hl hd
    simpa using this
  | true :: bs, d, hl, hd => by
    simp only [List.map_cons, sel, run, if_true]
    have ht : tag d w = 1 := by unfold tag; rw [if_neg h0, hd, if_pos rfl]
    have hlr : learn d w = d.set (slot w) w := by unfold learn; rw [if_neg h0]
    have := run_known h0 bs (learn d w) (by rw [learn_length, hl]) (by rw [hlr]; exact getD_set_self' (by rw [hl]; exact slot_lt w))
    rw [List.length_append, size_body, ht, this]
    simp [size]
    omega
theorem run_fresh {w : Nat} (h0 : w ≠ 0) : ∀ (bs : List Bool) (d : List Nat), d.length = 16 → d.getD (slot w) 0 = 0 →
    (run d (bs.map (sel w))).2.2.length = if bs.count true = 0 then 0 else (if w / 65536 = 0 then 3 else 4) + (bs.count true - 1)
  | [], d, _, _ => rfl
  | false :: bs, d, hl, hd => by
    simp only [List.map_cons, sel, run, Bool.false_eq_true, if_false]
    rw [body_zero, show learn d 0 = d from rfl]
    have := run_fresh h0 bs d hl hd
    simpa using this
  | true :: bs, d, hl, hd => by
    simp only [List.map_cons, sel, run, if_true]
    have hlr : learn d w = d.set (slot w) w := by unfold learn; rw [if_neg h0]
    have := run_known h0 bs (learn d w) (by rw [learn_length, hl]) (by rw [hlr]; exact getD_set_self' (by rw [hl]; exact slot_lt w))
    rw [List.length_append, size_body, this]
    have ht : size (tag d w) = if w / 65536 = 0 then 3 else 4 := by
      unfold tag
      rw [if_neg h0, hd, if_neg h0, Nat.zero_div]
      split <;> rfl
    rw [ht]
    simp
theorem d0_getD (i : Nat) : d0.getD i 0 = 0 := by
  rw [List.getD_eq_getElem?_getD, d0, List.getElem?_replicate]
  split <;> rfl
theorem comp_repeated {w m : Nat} (hw : w < 4294967296) (h0 : w ≠ 0) (hm : m ≤ 64) :
    (comp (flat (wsAt w m))).length = 17 + if m = 0 then 0 else (if w / 65536 = 0 then 3 else 4) + (m - 1) := by
  have h := run_fresh h0 (pos m) d0 (by simp [d0]) (d0_getD _)
  rw [pos_count m (by omega)] at h
  have hws := words_flat (wsAt_length w m) (wsAt_lt hw m)
  unfold comp
  rw [hws]
  unfold wsAt
  rw [h]
  have hle : (if m = 0 then 0 else (if w / 65536 = 0 then 3 else 4) + (m - 1)) ≤ 67 := by split <;> (try split) <;> omega
  rw [if_neg (by omega)]
  simp only [List.length_cons, List.length_append, pk_length, h]
  omega

/- Upper halves that grow. -/
theorem run_inc : ∀ (ws d : List Nat), d.length = 16 → (∀ x ∈ d, ∀ y ∈ ws, x / 65536 < y / 65536) → ws.Pairwise (fun a b => a / 65536 < b / 65536) → (run d ws).2.2.length = 4 * ws.length
  | [], d, _, _, _ => rfl
  | w :: ws, d, hl, hd, hp => by
    simp only [run, List.length_append, List.length_cons]
    have hm : d.getD (slot w) 0 ∈ d := by
      have := slot_lt w
      rw [List.getD_eq_getElem?_getD, List.getElem?_eq_getElem (by omega)]
      exact List.getElem_mem _
    have hlt := hd _ hm w (.head _)
    have ht : tag d w = 3 := by
      unfold tag
      rw [if_neg (by intro h; subst h; simp at hlt), if_neg (by intro h; rw [← h] at hlt; omega), if_neg (by omega)]
    rw [size_body, ht]
    have hw0 : w ≠ 0 := by intro h; subst h; simp at hlt
    have hp' := List.pairwise_cons.1 hp
    rw [run_inc ws (learn d w) (by rw [learn_length, hl]) ?_ hp'.2]
    · simp [size]; omega
    · intro x hx y hy
      unfold learn at hx
      rw [if_neg hw0] at hx
      rcases List.mem_or_eq_of_mem_set hx with h | rfl
      · exact hd x h y (.tail _ hy)
      · exact hp'.1 y hy
theorem comp_inc {ws : List Nat} (hl : ws.length = 64) (hw : ∀ w ∈ ws, w < 4294967296 ∧ 0 < w / 65536) (hp : ws.Pairwise (fun a b => a / 65536 < b / 65536)) : comp (flat ws) = 0 :: flat ws := by
  have h := run_inc ws d0 (by simp [d0]) (fun x hx y hy => by
    simp only [d0, List.mem_replicate] at hx
    rw [hx.2]
    simpa using (hw y hy).2) hp
  unfold comp
  rw [words_flat hl (fun w h => (hw w h).1), h, hl, if_pos (by omega)]

/-- The i-th of the words. -/
def inc (s lo i : Nat) : Nat := (i + 1 + s) * 65536 + lo + i
theorem inc_lt {s lo i : Nat} (hs : s < 60000) (hlo : lo < 65536) (hi : i < 64) : inc s lo i < 4294967296 := by unfold inc; omega
theorem inc_hi (s lo i : Nat) : inc s lo i / 65536 = i + 1 + s + (lo + i) / 65536 := by unfold inc; omega
def incs (s lo n : Nat) : List Nat := (List.range 64).map fun i => if i < n then inc s lo i else 0
theorem incs_length (s lo n : Nat) : (incs s lo n).length = 64 := by simp [incs]
theorem incs_zero (s lo : Nat) : incs s lo 0 = List.replicate 64 0 := by
  unfold incs
  simp only [Nat.not_lt_zero, if_false]
  decide +kernel
theorem incs_succ (s lo n : Nat) : incs s lo (n + 1) = (incs s lo n).set n (inc s lo n) := by
  apply List.ext_getElem
  · simp [incs]
  · intro i h1 h2
    rw [List.getElem_set]
    simp only [incs, List.getElem_map, List.getElem_range]
    by_cases h : n = i
    · subst h; rw [if_pos (by omega), if_pos rfl]
    · rw [if_neg h]
      by_cases h' : i < n
      · rw [if_pos (by omega), if_pos h']
      · rw [if_neg (by omega), if_neg h']
theorem incs_full (s lo : Nat) : incs s lo 64 = (List.range 64).map (inc s lo) := by
  apply List.map_congr_left
  intro i hi
  rw [if_pos (by simpa using hi)]
theorem comp_incs {s lo : Nat} (hs : s < 60000) (hlo : lo < 65536) : comp (flat (incs s lo 64)) = 0 :: flat (incs s lo 64) := by
  refine comp_inc (incs_length _ _ _) (fun w hw => ?_) ?_
  · rw [incs_full] at hw
    simp only [List.mem_map, List.mem_range] at hw
    obtain ⟨i, hi, rfl⟩ := hw
    exact ⟨inc_lt hs hlo hi, by rw [inc_hi]; omega⟩
  · rw [incs_full, List.pairwise_map]
    refine List.Pairwise.imp ?_ List.pairwise_lt_range
    intro a b hab
    rw [inc_hi, inc_hi]
    omega
end Go.Proofs.Ytpinpccamfhofaa.Pz

/-
  Page compression: contracts of the program's Compress. No condition beyond those stated.
-/
set_option maxRecDepth 100000
namespace Go.Proofs.Ytpinpccamfhofaa.Pz
open Go Go.Ev Go.Proofs

def dcells (d : List Nat) : List Value := d.map fun (n : Nat) => .int .u32 (n : Int)
theorem dcells_length (d : List Nat) : (dcells d).length = d.length := by simp [dcells]
theorem dcells_get (d : List Nat) (i : Nat) : (dcells d)[i]? = (d[i]?).map fun (n : Nat) => Value.int .u32 (n : Int) := by simp [dcells]
theorem dcells_set (d : List Nat) (i n : Nat) : (dcells d).set i (.int .u32 (n : Int)) = dcells (d.set i n) := by simp [dcells, List.map_set]
theorem dcells_getD {d : List Nat} {i : Nat} (h : i < d.length) : (dcells d)[i]? = some (.int .u32 ((d.getD i 0 : Nat) : Int)) := by
  rw [dcells_get, List.getD_eq_getElem?_getD, List.getElem?_eq_getElem h]; rfl

theorem slot_int (n : Nat) (h : n < 4294967296) : Int.tmod (IntKind.wrap .i64 (Int.fdiv (n : Int) (2 ^ 16))) 16 = (slot n : Int) := by
  rw [fdiv16, wrap_i64 (by omega) (by omega)]
  rfl

theorem fine_getD {d : List Nat} (h : Fine d) (i : Nat) : d.getD i 0 < 4294967296 := by
  rw [List.getD_eq_getElem?_getD]
  cases hg : d[i]? with
  | none => simp
  | some x => simpa using h.2 x (List.mem_of_getElem? hg)

section
variable {w : World} {Q : Value → World → Prop}

theorem slotOf_c {n : Nat} (h : n < 4294967296) (hQ : Q (.int .i64 (slot n : Int)) w) : CallE Try.prog 105 #[.int .u32 (n : Int)] w Q := by
  apply C.pagezip_slotOf
  unfold W.pagezip_slotOf
  rw [slot_int n h]
  exact hQ

theorem wordAt_c {l : List UInt8} (h : 4 ≤ l.length) (hQ : ∀ w', Ext w w' (fun _ => False) → Q (.int .u32 (word l : Int)) w') : CallE Try.prog 103 #[.string (mkS l)] w Q := by
  apply C.pagezip_wordAt
  unfold W.pagezip_wordAt
  show dr w _
  unfold dr
  refine rq_r (sx (by omega) (by omega)) ?_
  rw [fI_int]
  refine rq_r (sx (by omega) (by omega)) ?_
  rw [fI_int]
  refine rq_r (sx (by omega) (by omega)) ?_
  rw [fI_int]
  refine rq_r (sx (by omega) (by omega)) ?_
  rw [fI_int, word_or]
  have := hQ (drew w) (Ext.refl _ _).drew_
  rw [word_get h] at this
  exact this

theorem tag_c {db : Nat} {d : List Nat} {T : TypeId} {n : Nat} (hd : At w db (dcells d) T) (hf : Fine d) (h : n < 4294967296) (hQ : ∀ w', Ext w w' (fun _ => False) → Q (.int .i64 (tag d n : Int)) w') :
    CallE Try.prog 104 #[.pointer (some ⟨db, 0, none⟩), .int .u32 (n : Int)] w Q := by
  apply C.pagezip_dictionary_tag
  unfold W.pagezip_dictionary_tag
  refine ⟨fun w' => At w' db (dcells d) T, hd, ?_⟩
  refine slotOf_c h ?_
  rw [fI_int]
  refine ⟨hd, ?_⟩
  have hs := slot_lt n
  refine ixS_arr 16 1 119 (by omega) (by omega) ?_
  rw [fA_ptr, Int.toNat_natCast, add_mk, Nat.zero_add, Nat.mul_one]
  refine ldS_i (fun w h => h) (dcells_getD (by rw [hf.1]; exact hs)) ?_
  rw [fI_int]
  have fin := hQ (drew w) (Ext.refl _ _).drew_
  unfold tag at fin
  by_cases h0 : n = 0
  · rw [if_pos h0] at fin
    rw [show ((n : Int) == 0) = true by simp [h0], br_true]
    exact fin
  rw [if_neg h0] at fin
  rw [show ((n : Int) == 0) = false by simp [h0], br_false]
  by_cases h1 : n = d.getD (slot n) 0
  · rw [if_pos h1] at fin
    rw [show ((n : Int) == ((d.getD (slot n) 0 : Nat) : Int)) = true by rw [beq_iff_eq]; omega, br_true]
    exact fin
  rw [if_neg h1] at fin
  rw [show ((n : Int) == ((d.getD (slot n) 0 : Nat) : Int)) = false by rw [beq_eq_false_iff_ne]; omega, br_false, fdiv16, fdiv16]
  by_cases h2 : n / 65536 = d.getD (slot n) 0 / 65536
  · rw [if_pos h2] at fin
    rw [show (((n / 65536 : Nat) : Int) == ((d.getD (slot n) 0 / 65536 : Nat) : Int)) = true by rw [beq_iff_eq]; omega, br_true]
    exact fin
  · rw [if_neg h2] at fin
    rw [show (((n / 65536 : Nat) : Int) == ((d.getD (slot n) 0 / 65536 : Nat) : Int)) = false by rw [beq_eq_false_iff_ne]; omega, br_false]
    exact fin

theorem learn_c {db : Nat} {d : List Nat} {T : TypeId} {n : Nat} (hd : At w db (dcells d) T) (hf : Fine d) (h : n < 4294967296) (hQ : ∀ w', At w' db (dcells (learn d n)) T → Ext w w' (· = db) → w'.heap.size = w.heap.size → Q (.tuple #[]) w') :
    CallE Try.prog 106 #[.pointer (some ⟨db, 0, none⟩), .int .u32 (n : Int)] w Q := by
  apply C.pagezip_dictionary_learn
  unfold W.pagezip_dictionary_learn
  unfold learn at hQ
  by_cases h0 : n = 0
  · rw [if_pos h0] at hQ
    rw [show ((n : Int) != 0) = false by simp [h0], br_false]
    exact hQ w hd (Ext.refl _ _) rfl
  rw [if_neg h0] at hQ
  rw [show ((n : Int) != 0) = true by simp [h0], br_true]
  refine ⟨fun _ => True, trivial, ?_⟩
  refine slotOf_c h ?_
  rw [fI_int]
  refine ⟨trivial, ?_⟩
  have hs := slot_lt n
  refine ixS_arr 16 1 119 (by omega) (by omega) ?_
  rw [fA_ptr, Int.toNat_natCast, add_mk, Nat.zero_add, Nat.mul_one]
  refine st_i (w := drew w) hd (by rw [dcells_length, hf.1]; exact hs) fun w1 a1 e1 z1 => ⟨trivial, ?_⟩
  rw [dcells_set] at a1
  exact hQ w1 a1 e1.of_drew z1

theorem by_set (l : List UInt8) (i : Nat) (x : UInt8) : (by_ l).set i (.int .u8 (x.toNat : Int)) = by_ (l.set i x) := by simp [by_, List.map_set]

/-- A few bytes onto a slice of bytes. -/
theorem al_ap {cs : Array Value} {bs l : List UInt8} {a : Option Addr} {n c k k' : Nat} {K : Option Addr → Nat → Nat → World → Prop} (hcs : cs.toList = by_ bs) (hk : bs.length = k) (hs : Sl w 5 1 a n c (by_ l)) (hn : n + k ≤ 1000000)
    (hK : ∀ a' c' w', Sl w' 5 1 a' (n + k) c' (by_ (l ++ bs)) → (∀ b, a' = some ⟨b, 0, none⟩ → a = some ⟨b, 0, none⟩ ∨ w.heap.size ≤ b) → Ext w w' (fun b => a = some ⟨b, 0, none⟩) → K a' (n + k) c' w') :
    al 5 cs w fun x w1 => rv Try.prog (Builtin.append_ #[82, 82] 82 #[.slice a n c, .slice (some x) k k']) w1 fun v w2 => fS v fun l1 l2 l3 => K l1 l2 l3 w2 := by
  refine al_i fun b w1 hb a1 e1 z1 => ?_
  rw [hcs] at a1
  refine ap_i 5 1 (hs.ext e1 (fun _ _ h => h)) (vs := by_ bs) (.inr ⟨_, rfl, fun j hj => by rw [add_mk, a1.cell, Nat.zero_add]⟩) (by rw [by_length, hk, Nat.mul_one]) (by_one bs) (by omega) fun a' c' w2 s2 hor _ e2 => ?_
  rw [fS_slice]
  rw [← by_append] at s2
  refine hK a' c' w2 s2 (fun b' hb' => ?_) (e1.trans e2 (fun _ _ h => h.elim) (fun _ _ h => h))
  rcases hor b' hb' with h | h
  · exact .inl h
  · exact .inr (by have := e1.size; omega)

theorem zero_dict : (zeroT Try.prog 170).cells.toList = dcells d0 := by kernel_rfl
theorem zero_tags : (zeroT Try.prog 171).cells.toList = by_ (List.replicate 16 0) := by kernel_rfl

/-- The byte of tags, with one tag more. -/
theorem tag_byte {ts : List Nat} {t i : Nat} (hts : ∀ x ∈ ts, x < 4) (ht : t < 4) (hl : ts.length = i) (hi : i < 64) :
    bor .u8 (((pk ts)[i / 4]'(by rw [pk_length]; omega)).toNat : Int) (IntKind.wrap .u8 (IntKind.wrap .i64 ((t : Int) * 2 ^ (IntKind.wrap .i64 (2 * (Int.tmod (i : Int) 4))).toNat))) = ((UInt8.ofNat (tb ts (i / 4) + t * 4 ^ (i % 4))).toNat : Int) := by
  have h1 : (pk ts)[i / 4]'(by rw [pk_length]; omega) = UInt8.ofNat (tb ts (i / 4)) := by simp [pk]
  have hlow := tb_low hts
  rw [hl] at hlow
  have hm : i % 4 < 4 := Nat.mod_lt _ (by omega)
  have h2 : IntKind.wrap .i64 (2 * (Int.tmod (i : Int) 4)) = ((2 * (i % 4) : Nat) : Int) := by
    rw [show Int.tmod (i : Int) 4 = ((i % 4 : Nat) : Int) from rfl, wrap_i64 (by omega) (by omega)]
    push_cast; rfl
  have h4 : (4 : Nat) ^ (i % 4) = 2 ^ (2 * (i % 4)) := by rw [Nat.pow_mul]
  have h5 : (4 : Nat) ^ (i % 4) ≤ 64 := by
    rcases (show i % 4 = 0 ∨ i % 4 = 1 ∨ i % 4 = 2 ∨ i % 4 = 3 by omega) with h | h | h | h <;> rw [h] <;> decide
  have h6 : t * 4 ^ (i % 4) ≤ 192 := Nat.le_trans (Nat.mul_le_mul (show t ≤ 3 by omega) h5) (by omega)
  rw [h1, h2, Int.toNat_natCast, UInt8.toNat_ofNat', Nat.mod_eq_of_lt (tb_lt hts _)]
  rw [show (t : Int) * 2 ^ (2 * (i % 4)) = ((t * 4 ^ (i % 4) : Nat) : Int) by rw [h4, Int.natCast_mul, Int.natCast_pow]; rfl]
  have h7 : (t + 1) * 4 ^ (i % 4) ≤ 4 * 64 := Nat.mul_le_mul (by omega) h5
  rw [Nat.add_mul, Nat.one_mul] at h7
  rw [wrap_i64 (by omega) (by omega), wrap_u8n (by omega), bor_u8 (tb_lt hts _) (by omega)]
  have h8 : tb ts (i / 4) ||| t * 4 ^ (i % 4) = tb ts (i / 4) + t * 4 ^ (i % 4) := by
    have := or_add (tb ts (i / 4)) t (2 * (i % 4)) (by rw [← h4]; exact hlow)
    rwa [← h4] at this
  rw [h8, UInt8.toNat_ofNat']
  congr 1
  exact (Nat.mod_eq_of_lt (by omega)).symm

theorem words_get (l : List UInt8) {i : Nat} (hi : i < 64) : (words l)[i]'(by rw [words_length]; exact hi) = word (l.drop (4 * i)) := by simp [words]
theorem run_take (l : List UInt8) {i : Nat} (hi : i < 64) (d : List Nat) : run d ((words l).take (i + 1)) = (learn (run d ((words l).take i)).1 (word (l.drop (4 * i))), (run d ((words l).take i)).2.1 ++ [tag (run d ((words l).take i)).1 (word (l.drop (4 * i)))], (run d ((words l).take i)).2.2 ++ body (run d ((words l).take i)).1 (word (l.drop (4 * i)))) := by
  rw [List.take_succ_eq_append_getElem (by rw [words_length]; exact hi), words_get l hi, run_snoc]

/-- What holds after i words. -/
structure Cmp (U w : World) (db tb : Nat) (la : Option Addr) (n c : Nat) (r : List Nat × List Nat × List UInt8) : Prop where
  d : At w db (dcells r.1) 170
  t : At w tb (by_ (pk r.2.1)) 171
  s : Sl w 5 1 la n c (by_ r.2.2)
  n : n = r.2.2.length
  ne : db ≠ tb
  lo : U.heap.size ≤ db ∧ U.heap.size ≤ tb
  sb : ∀ b, la = some ⟨b, 0, none⟩ → b ≠ db ∧ b ≠ tb ∧ U.heap.size ≤ b
  e : Ext U w (fun _ => False)

theorem compress_k19 {U : World} {db tb : Nat} {la : Option Addr} {n c i : Nat} {l : List UInt8} {d ts : List Nat} {bd : List UInt8} {x : Nat} {next : ((Option Addr × Nat × Nat) × Int × Unit) → World → Prop}
    (h : Cmp U w db tb la n c (d, ts, bd)) (hf : Fine d) (hx : x < 4294967296) (hi : i < 64)
    (hn : ∀ w', Cmp U w' db tb la n c (learn d x, ts, bd) → next ((la, n, c), ((i + 1 : Nat) : Int), ()) w') :
    W.pagezip_Compress_k19 (mkS l) ⟨db, 0, none⟩ ⟨tb, 0, none⟩ la n c (x : Int) (i : Int) next w Q := by
  unfold W.pagezip_Compress_k19
  refine learn_c h.d hf hx fun w1 a1 e1 z1 => ⟨rfl, ?_⟩
  rw [wrap_i64 (by omega) (by omega)]
  exact hn w1 ⟨a1, h.t.ext e1 (Ne.symm h.ne), h.s.ext e1 (fun b hb hx => (h.sb b hb).1 hx), h.n, h.ne, h.lo, h.sb, h.e.trans e1 (fun _ _ h => h) (fun b' hb' hx => by have := h.lo.1; omega)⟩

theorem Cmp.app {U w w1 : World} {db tb : Nat} {la la' : Option Addr} {n n' c c' : Nat} {d ts : List Nat} {bd bs : List UInt8} (h : Cmp U w db tb la n c (d, ts, bd)) (hs : Sl w1 5 1 la' n' c' (by_ (bd ++ bs))) (hn : n' = n + bs.length) (hor : ∀ b, la' = some ⟨b, 0, none⟩ → la = some ⟨b, 0, none⟩ ∨ w.heap.size ≤ b) (e : Ext w w1 (fun b => la = some ⟨b, 0, none⟩)) :
    Cmp U w1 db tb la' n' c' (d, ts, bd ++ bs) := by
  have h1 := h.d.lt; have h2 := h.t.lt; have h3 := h.e.size
  refine ⟨h.d.ext e (fun hx => (h.sb _ hx).1 rfl), h.t.ext e (fun hx => (h.sb _ hx).2.1 rfl), hs, by rw [hn, h.n]; simp, h.ne, h.lo, fun b hb => ?_, h.e.trans e (fun _ _ h => h) (fun b' hb' hx => by have := (h.sb _ hx).2.2; omega)⟩
  rcases hor b hb with hx | hx
  · exact h.sb b hx
  · exact ⟨by omega, by omega, by omega⟩

/-- The last step: the form's byte, the tags, the rest; in whatever order they are made. -/
theorem compress_k21 {U : World} {db tb : Nat} {la : Option Addr} {n c : Nat} {l : List UInt8} (hl : l.length = 256) (h : Cmp U w db tb la n c (run d0 (words l)))
    (hQ : ∀ w', Ext U w' (fun _ => False) → Q (.tuple #[.string (mkS (comp l)), .int .i64 0]) w') :
    W.pagezip_Compress_k21 (mkS l) ⟨tb, 0, none⟩ la n c w Q := by
  unfold W.pagezip_Compress_k21
  have hbl := run_body_le (words l) d0
  rw [words_length] at hbl
  have hn := h.n
  have hpl := pk_length (run d0 (words l)).2.1
  unfold comp at hQ
  rw [wrap_i64 (by omega) (by omega)]
  by_cases hgt : 17 + (run d0 (words l)).2.2.length > 256
  · rw [if_pos hgt] at hQ
    rw [decide_eq_true (by omega), br_true]
    refine al_i fun b w1 hb a1 e1 z1 => ?_
    refine bs_str (l := [0]) (.inr ⟨_, rfl, fun j hj => by rw [add_mk, a1.cell, Nat.zero_add]; rfl⟩) rfl ?_
    rw [fT_str]
    refine rq_r (s_add (by simp [hl])) ?_
    rw [fT_str]
    exact hQ w1 (h.e.tr e1)
  rw [if_neg hgt] at hQ
  rw [decide_eq_false (by omega), br_false]
  generalize hts : (run d0 (words l)).2.1 = ts at *
  generalize hbd : (run d0 (words l)).2.2 = bd at *
  have ht0 := h.t; have hs0 := h.s
  rw [hts] at ht0
  rw [hbd] at hs0
  have I0 : At w tb (by_ (pk ts)) 171 ∧ Sl w 5 1 la n c (by_ bd) ∧ Ext U w (fun _ => False) := ⟨ht0, hs0, h.e⟩
  have I1 : At (drew w) tb (by_ (pk ts)) 171 ∧ Sl (drew w) 5 1 la n c (by_ bd) ∧ Ext U (drew w) (fun _ => False) := ⟨ht0, hs0, h.e.drew_⟩
  generalize drew w = wd at I1 ⊢
  have aL : ∀ (w' : World) (K : Addr → World → Prop), (At w' tb (by_ (pk ts)) 171 ∧ Sl w' 5 1 la n c (by_ bd) ∧ Ext U w' (fun _ => False)) → (∀ b w'', (At w'' tb (by_ (pk ts)) 171 ∧ Sl w'' 5 1 la n c (by_ bd) ∧ Ext U w'' (fun _ => False)) → At w'' b (by_ [1]) 5 → K ⟨b, 0, none⟩ w'') → al 5 #[.int .u8 1] w' K := by
    intro w' K hI hK
    refine al_i fun b w1 hb a1 e1 z1 => hK b w1 ⟨hI.1.ext e1 (fun h => h), hI.2.1.ext e1 (fun _ _ h => h), hI.2.2.tr e1⟩ a1
  have cT : ∀ (w' : World) (K : ByteArray → World → Prop), (At w' tb (by_ (pk ts)) 171 ∧ Sl w' 5 1 la n c (by_ bd) ∧ Ext U w' (fun _ => False)) → K (mkS (pk ts)) w' → rv Try.prog (convert 82 9 (.slice (some ⟨tb, 0, none⟩) 16 16)) w' fun v w1 => fT v fun t => K t w1 := by
    intro w' K hI hK
    refine bs_str (l := pk ts) (.inr ⟨_, rfl, fun j hj => by rw [add_mk, hI.1.cell, Nat.zero_add]⟩) hpl ?_
    rw [fT_str]
    exact hK
  have cB : ∀ (w' : World) (K : ByteArray → World → Prop), (At w' tb (by_ (pk ts)) 171 ∧ Sl w' 5 1 la n c (by_ bd) ∧ Ext U w' (fun _ => False)) → K (mkS bd) w' → rv Try.prog (convert 82 9 (.slice la n c)) w' fun v w1 => fT v fun t => K t w1 := by
    intro w' K hI hK
    refine bs_str (l := bd) hI.2.1.reads hn.symm ?_
    rw [fT_str]
    exact hK
  have cL : ∀ (b : Nat) (w' : World) (K : ByteArray → World → Prop), At w' b (by_ [1]) 5 → K (mkS [1]) w' → rv Try.prog (convert 82 9 (.slice (some ⟨b, 0, none⟩) 1 1)) w' fun v w1 => fT v fun t => K t w1 := by
    intro b w' K hI hK
    refine bs_str (l := [1]) (.inr ⟨_, rfl, fun j hj => by rw [add_mk, hI.cell, Nat.zero_add]⟩) rfl ?_
    rw [fT_str]
    exact hK
  have ad : ∀ (a b : List UInt8) (x y : Operand) (K : ByteArray → Prop), a.length + b.length < 1000000 → K (mkS (a ++ b)) → rqS Try.prog (fun _ => True) (do eqGuard .add 9 x y (.string (mkS a)) (.string (mkS b)); binOp .add 9 (.string (mkS a)) (.string (mkS b))) fun v => fT v fun t => K t := by
    intro a b x y K hlt hK
    refine rqS_r (s_add (by omega)) ?_
    rw [fT_str]
    exact hK
  have fin : ∀ w', (At w' tb (by_ (pk ts)) 171 ∧ Sl w' 5 1 la n c (by_ bd) ∧ Ext U w' (fun _ => False)) → Q (.tuple #[.string (mkS (([1] ++ pk ts) ++ bd)), .int .i64 0]) w' := by
    intro w' hI
    exact hQ w' hI.2.2
  refine ⟨fun _ => True, trivial, ?_⟩
  refine rqS_r (a_all 16) ?_
  rw [fS_slice]
  repeat' first
    | exact trivial
    | refine fin _ (by assumption)
    | refine aL _ _ (by assumption) fun _ _ _ _ => ?_
    | refine cT _ _ (by assumption) ?_
    | refine cB _ _ (by assumption) ?_
    | refine cL _ _ _ (by assumption) ?_
    | refine cL _ _ _ (At.ext (by assumption) (by assumption) (fun h => h)) ?_
    | refine ad _ _ _ _ _ (by simp only [List.length_append, List.length_cons, List.length_nil, hpl]; omega) ?_
    | refine And.intro ?_ ?_

theorem compress_c {l : List UInt8} (hl : l.length = 256) (hQ : ∀ w', Ext w w' (fun _ => False) → Q (.tuple #[.string (mkS (comp l)), .int .i64 0]) w') :
    CallE Try.prog 71 #[.string (mkS l)] w Q := by
  apply C.pagezip_Compress
  unfold W.pagezip_Compress
  rw [mkS_size, hl, show (((256 : Nat) : Int) != 256) = false from rfl, br_false]
  refine al_i fun db w1 hdb a1 e1 z1 => ?_
  rw [zero_dict] at a1
  refine al_i fun tb w2 htb a2 e2 z2 => ?_
  rw [zero_tags] at a2
  refine LoopW.nat 64 (fun i x w' => ∃ la n c, x = ((la, n, c), (i : Int), ()) ∧ Cmp w w' db tb la n c (run d0 ((words l).take i)))
    ⟨none, 0, 0, rfl, a1.ext e2 (fun h => h), by rw [show (run d0 (List.take 0 (words l))).2.1 = [] from rfl, pk_nil]; exact a2, .inl ⟨rfl, rfl, rfl, rfl⟩, rfl, by omega, by omega, (fun b hb => by cases hb), e1.tr e2⟩ ?_
  rintro i x w3 next hi ⟨la, n, c, rfl, h⟩ hnext
  dsimp only
  by_cases hlt : i < 64
  case neg =>
    rw [decide_eq_false (by omega), br_false]
    rw [List.take_of_length_le (by rw [words_length]; omega)] at h
    exact compress_k21 hl h hQ
  rw [decide_eq_true (by omega), br_true]
  have hrun := run_take l hlt d0
  have hfine := fine_run ((words l).take i) d0 fine_d0 (fun x hx => words_lt l x (List.mem_of_mem_take hx))
  have htl := run_tags_length ((words l).take i) d0
  have htlt := run_tags_lt ((words l).take i) d0
  have hble := run_body_le ((words l).take i) d0
  rw [List.length_take, words_length, Nat.min_eq_left (by omega)] at htl hble
  generalize hr : run d0 ((words l).take i) = r at *
  obtain ⟨d, ts, bd⟩ := r
  dsimp only at *
  have hxlt := word_lt (l.drop (4 * i))
  rw [wrap_i64 (by omega) (by omega)]
  refine rq_r (s_lo (by omega) (by omega)) ?_
  rw [fT_str, show (4 * (i : Int)).toNat = 4 * i by omega]
  refine wordAt_c (by rw [List.length_drop]; omega) fun w4 e4 => ?_
  rw [fI_int]
  have hdr := h.e.size
  refine tag_c (h.d.ext e4 (fun h => h)) hfine hxlt fun w5 e5 => ?_
  rw [fI_int]
  have e35 := e4.tr e5
  generalize word (l.drop (4 * i)) = x at *
  have htag := tag_lt d x
  generalize htg : tag d x = t at *
  show dr w5 _
  unfold dr
  have hq : IntKind.wrap .i64 (Int.tdiv (i : Int) 4) = ((i / 4 : Nat) : Int) := by
    rw [show Int.tdiv (i : Int) 4 = ((i / 4 : Nat) : Int) from rfl, wrap_i64 (by omega) (by omega)]
  have h2m : IntKind.wrap .i64 (2 * (Int.tmod (i : Int) 4)) = ((2 * (i % 4) : Nat) : Int) := by
    rw [show Int.tmod (i : Int) 4 = ((i % 4 : Nat) : Int) from rfl, wrap_i64 (by omega) (by omega)]
    push_cast; rfl
  rw [hq]
  have hpl := pk_length ts
  have t5 : At (drew w5) tb (by_ (pk ts)) 171 := h.t.ext e35.drew_ (fun h => h)
  refine ix_arr (w := drew w5) 16 1 5 (by omega) (by omega) ?_
  rw [fA_ptr, Int.toNat_natCast, add_mk, Nat.zero_add, Nat.mul_one]
  refine ld_i t5 (by rw [by_get, List.getElem?_eq_getElem (show i / 4 < (pk ts).length by omega)]; rfl) ?_
  rw [fI_int]
  refine rq_r (shl_i (by omega) (by rw [h2m]; show _ ≤ ((64 : Nat) : Int); omega)) ?_
  rw [fI_int]
  refine ix_arr (w := drew w5) 16 1 5 (by omega) (by omega) ?_
  rw [fA_ptr, Int.toNat_natCast, add_mk, Nat.zero_add, Nat.mul_one]
  refine st_i t5 (by rw [by_length]; omega) fun w6 a6 e6 z6 => ?_
  rw [tag_byte htlt htag htl hlt] at a6
  have a6' : At w6 tb (by_ (pk (ts ++ [t]))) 171 := by
    rw [pk_snoc (by omega), htl]
    rw [by_set] at a6
    exact a6
  have e36 : Ext w3 w6 (· = tb) := (e35.drew_.of0 (X := (· = tb))).tr e6
  have hC : Cmp w w6 db tb la n c (d, ts ++ [t], bd) := ⟨h.d.ext e36 h.ne, a6', h.s.ext e36 (fun b hb hx => (h.sb b hb).2.1 hx), h.n, h.ne, h.lo, h.sb, h.e.trans e36 (fun _ _ h => h) (fun b' hb' hx => by have := h.lo.2; omega)⟩
  have hnn : n = bd.length := h.n
  have step : ∀ {w7 : World} {la' : Option Addr} {n' c' : Nat} {bs : List UInt8}, bs = body d x → Cmp w w7 db tb la' n' c' (d, ts ++ [t], bd ++ bs) → W.pagezip_Compress_k19 (mkS l) ⟨db, 0, none⟩ ⟨tb, 0, none⟩ la' n' c' (x : Int) (i : Int) next w7 Q := by
    intro w7 la' n' c' bs hbs h7
    refine compress_k19 h7 hfine hxlt hlt fun w8 h8 => ?_
    refine hnext hlt _ _ ⟨la', n', c', rfl, ?_⟩
    rw [hrun, ← hbs]
    exact h8
  have hslot := slot_lt x
  rcases (show t = 0 ∨ t = 1 ∨ t = 2 ∨ t = 3 by omega) with ht | ht | ht | ht
  · subst ht
    rw [show (((0 : Nat) : Int) == 1) = false from rfl, br_false, show (((0 : Nat) : Int) == 2) = false from rfl, br_false, show (((0 : Nat) : Int) == 3) = false from rfl, br_false]
    exact step (bs := []) (by unfold body; rw [htg]; rfl) (by rw [List.append_nil]; exact hC)
  · subst ht
    rw [show (((1 : Nat) : Int) == 1) = true from rfl, br_true]
    refine slotOf_c hxlt ?_
    rw [fI_int, wrap_byte]
    refine al_ap (bs := [UInt8.ofNat (slot x)]) rfl rfl hC.s (by omega) fun a' c' w7 s7 hor e7 => ?_
    exact step (by unfold body; rw [htg]; rfl) (hC.app s7 rfl hor e7)
  · subst ht
    rw [show (((2 : Nat) : Int) == 1) = false from rfl, br_false, show (((2 : Nat) : Int) == 2) = true from rfl, br_true]
    refine slotOf_c hxlt ?_
    rw [fI_int, wrap_byte, wrap_byte, fdiv8, wrap_byte]
    refine al_ap (bs := [UInt8.ofNat (slot x), UInt8.ofNat x, UInt8.ofNat (x / 256)]) rfl rfl hC.s (by omega) fun a' c' w7 s7 hor e7 => ?_
    exact step (by unfold body; rw [htg]; rfl) (hC.app s7 rfl hor e7)
  · subst ht
    rw [show (((3 : Nat) : Int) == 1) = false from rfl, br_false, show (((3 : Nat) : Int) == 2) = false from rfl, br_false, show (((3 : Nat) : Int) == 3) = true from rfl, br_true]
    rw [wrap_byte, fdiv8, wrap_byte, fdiv16, wrap_byte, fdiv24, wrap_byte]
    refine al_ap (bs := b4 x) rfl rfl hC.s (by omega) fun a' c' w7 s7 hor e7 => ?_
    exact step (by unfold body; rw [htg]; rfl) (hC.app s7 rfl hor e7)

theorem compress_bad {l : List UInt8} (hl : l.length ≠ 256) (hQ : Q (.tuple #[.string (mkS []), .int .i64 1]) w) : CallE Try.prog 71 #[.string (mkS l)] w Q := by
  apply C.pagezip_Compress
  unfold W.pagezip_Compress
  rw [mkS_size, show (((l.length : Nat) : Int) != 256) = true by simp; omega, br_true]
  exact hQ
end
end Go.Proofs.Ytpinpccamfhofaa.Pz

/-
  Page compression: contracts of the program's Decompress. No condition beyond those stated.
-/
set_option maxRecDepth 100000
namespace Go.Proofs.Ytpinpccamfhofaa.Pz
open Go Go.Ev Go.Proofs

theorem upper_or {x : Nat} (hx : x < 4294967296) (b c : UInt8) : bor .u32 (bor .u32 (band .u32 (x : Int) 4294901760) (IntKind.wrap .u32 (b.toNat : Int))) (IntKind.wrap .u32 ((IntKind.wrap .u32 (c.toNat : Int)) * 2 ^ 8))
    = ((x / 65536 * 65536 + b.toNat + c.toNat * 256 : Nat) : Int) := by
  have h1 := b.toNat_lt; have h2 := c.toNat_lt
  rw [wrap_u32n (n := b.toNat) (by omega), wrap_u32n (n := c.toNat) (by omega)]
  rw [show (c.toNat : Int) * 2 ^ 8 = ((c.toNat * 2 ^ 8 : Nat) : Int) by rw [Int.natCast_mul]; rfl, wrap_u32n (by omega)]
  rw [show (4294901760 : Int) = ((4294901760 : Nat) : Int) from rfl, band_u32 hx (by omega), and_hi hx]
  have ho : x / 65536 * 65536 ||| b.toNat = x / 65536 * 65536 + b.toNat := by
    have := or_add b.toNat (x / 65536) 16 (by omega)
    rw [Nat.or_comm, show (65536 : Nat) = 2 ^ 16 from rfl, this, Nat.add_comm]
  have ho2 : (x / 65536 * 65536 ||| b.toNat) ||| c.toNat * 2 ^ 8 = x / 65536 * 65536 + b.toNat + c.toNat * 256 := by
    rw [Nat.or_assoc, or_add b.toNat c.toNat 8 (by omega)]
    have := or_add (b.toNat + c.toNat * 2 ^ 8) (x / 65536) 16 (by omega)
    rw [Nat.or_comm, show (65536 : Nat) = 2 ^ 16 from rfl, this]
    omega
  rw [bor_u32 (by omega) (by omega), bor_u32 (by rw [ho]; omega) (by omega), ho2]

theorem upper_lt {x : Nat} (hx : x < 4294967296) (b c : UInt8) : x / 65536 * 65536 + b.toNat + c.toNat * 256 < 4294967296 := by
  have h1 := b.toNat_lt; have h2 := c.toNat_lt
  omega
theorem dec_lt {d : List Nat} (hf : Fine d) {t : Nat} {r : List UInt8} {x : Nat} (h : dec d t r = some x) : x < 4294967296 := by
  unfold dec at h
  split at h
  · cases h
  split at h
  · simp only [Option.some.injEq] at h; omega
  split at h
  · simp only [Option.some.injEq] at h; rw [← h]; exact word_lt r
  split at h
  · cases h
  split at h
  · simp only [Option.some.injEq] at h; rw [← h]; exact upper_lt (fine_getD hf _) _ _
  · simp only [Option.some.injEq] at h; rw [← h]; exact fine_getD hf _

section
variable {w : World} {Q : Value → World → Prop}

theorem decode_k9 {db : Nat} {d : List Nat} {T : TypeId} {t : Nat} {r : List UInt8} (hd : At w db (dcells d) T) (hf : Fine d) (ht : t < 4)
    (h1 : ∀ w' x, dec d t r = some x → Ext w w' (fun _ => False) → Q (.tuple #[.int .u32 (x : Int), .int .i64 (size t : Int), .bool true]) w')
    (h2 : dec d t r = none → Q (.tuple #[.int .u32 0, .int .i64 0, .bool false]) w) :
    W.pagezip_dictionary_decode_k9 ⟨db, 0, none⟩ (t : Int) (mkS r) (size t : Int) w Q := by
  unfold W.pagezip_dictionary_decode_k9
  rw [mkS_size]
  by_cases hlt : r.length < size t
  · rw [decide_eq_true (by omega), br_true]
    exact h2 (by unfold dec; rw [if_pos hlt])
  rw [decide_eq_false (by omega), br_false]
  by_cases h0 : t = 0
  · subst h0
    rw [show (((0 : Nat) : Int) == 0) = true from rfl, br_true]
    exact h1 w 0 (by unfold dec; rw [if_neg hlt, if_pos rfl]) (Ext.refl _ _)
  rw [show ((t : Int) == 0) = false by simp [h0], br_false]
  by_cases h3 : t = 3
  · subst h3
    rw [show (((3 : Nat) : Int) == 3) = true from rfl, br_true]
    refine wordAt_c (by simpa [size] using hlt) fun w1 e1 => ?_
    rw [fI_int]
    exact h1 w1 (word r) (by unfold dec; rw [if_neg hlt, if_neg (by omega), if_pos rfl]) e1
  rw [show ((t : Int) == 3) = false by simp; omega, br_false]
  have h1r : 1 ≤ r.length := by
    rcases (show t = 1 ∨ t = 2 by omega) with rfl | rfl
    · have h := hlt
      rw [show size 1 = 1 from rfl] at h
      omega
    · have h := hlt
      rw [show size 2 = 3 from rfl] at h
      omega
  refine rq_r (sxn 0 (by omega)) ?_
  rw [fI_int]
  by_cases h16 : (r.getD 0 0).toNat ≥ 16
  · rw [decide_eq_true (by omega), br_true]
    exact h2 (by unfold dec; rw [if_neg hlt, if_neg h0, if_neg h3, if_pos h16])
  rw [decide_eq_false (by omega), br_false]
  show dr w _
  unfold dr
  refine rq_r (sxn 0 (by omega)) ?_
  rw [fI_int]
  refine ix_arr (w := drew w) 16 1 119 (by omega) (by omega) ?_
  rw [fA_ptr, add_mk, Nat.zero_add, Nat.mul_one, Int.toNat_natCast]
  refine ld_i (w := drew w) hd (dcells_getD (by rw [hf.1]; omega)) ?_
  rw [fI_int]
  by_cases h22 : t = 2
  · subst h22
    have h3r : 3 ≤ r.length := by simpa [size] using hlt
    rw [show (((2 : Nat) : Int) == 2) = true from rfl, br_true]
    dsimp only
    refine rq_r (sxn 1 (by omega)) ?_
    rw [fI_int]
    refine rq_r (sxn 2 (by omega)) ?_
    rw [fI_int, upper_or (fine_getD hf _)]
    refine h1 _ _ ?_ (Ext.refl _ _).drew_.drew_
    unfold dec
    rw [if_neg hlt, if_neg (by omega), if_neg (by omega), if_neg h16, if_pos rfl]
  · rw [show ((t : Int) == 2) = false by simp; omega, br_false]
    refine h1 _ _ ?_ (Ext.refl _ _).drew_
    unfold dec
    rw [if_neg hlt, if_neg h0, if_neg h3, if_neg h16, if_neg h22]

theorem decode_c {db : Nat} {d : List Nat} {T : TypeId} {t : Nat} {r : List UInt8} (hd : At w db (dcells d) T) (hf : Fine d) (ht : t < 4)
    (h1 : ∀ w' x, dec d t r = some x → Ext w w' (fun _ => False) → Q (.tuple #[.int .u32 (x : Int), .int .i64 (size t : Int), .bool true]) w')
    (h2 : dec d t r = none → Q (.tuple #[.int .u32 0, .int .i64 0, .bool false]) w) :
    CallE Try.prog 125 #[.pointer (some ⟨db, 0, none⟩), .int .i64 (t : Int), .string (mkS r)] w Q := by
  apply C.pagezip_dictionary_decode
  unfold W.pagezip_dictionary_decode
  have key := decode_k9 (Q := Q) hd hf ht h1 h2
  rcases (show t = 0 ∨ t = 1 ∨ t = 2 ∨ t = 3 by omega) with rfl | rfl | rfl | rfl
  · exact key
  · exact key
  · exact key
  · exact key

theorem tag_shift (x : UInt8) {i : Nat} : IntKind.wrap .i64 (Int.fdiv ((x.toNat : Nat) : Int) (2 ^ (IntKind.wrap .i64 (2 * (Int.tmod (i : Int) 4))).toNat)) = ((x.toNat / 4 ^ (i % 4) : Nat) : Int) := by
  have hm : i % 4 < 4 := Nat.mod_lt _ (by omega)
  have hx := x.toNat_lt
  have h2 : IntKind.wrap .i64 (2 * (Int.tmod (i : Int) 4)) = ((2 * (i % 4) : Nat) : Int) := by
    rw [show Int.tmod (i : Int) 4 = ((i % 4 : Nat) : Int) from rfl, wrap_i64 (by omega) (by omega)]
    push_cast; rfl
  rw [h2, Int.toNat_natCast, show ((2 : Int) ^ (2 * (i % 4))) = ((4 ^ (i % 4) : Nat) : Int) by rw [show (4 : Nat) ^ (i % 4) = 2 ^ (2 * (i % 4)) by rw [Nat.pow_mul], Int.natCast_pow]; rfl, fdiv_n]
  have := Nat.div_le_self x.toNat (4 ^ (i % 4))
  generalize x.toNat / 4 ^ (i % 4) = q at *
  rw [wrap_i64 (by omega) (by omega)]
theorem band_i64 {n : Nat} (h : n < 256) : band .i64 (n : Int) 3 = ((n % 4 : Nat) : Int) := by
  unfold band
  have : (BitVec.ofInt (IntKind.bits .i64) (n : Int) &&& BitVec.ofInt (IntKind.bits .i64) 3).toNat = n % 4 := by
    show (BitVec.ofInt 64 (n : Int) &&& BitVec.ofInt 64 ((3 : Nat) : Int)).toNat = n % 4
    rw [BitVec.ofInt_natCast, BitVec.ofInt_natCast, BitVec.toNat_and, BitVec.toNat_ofNat, BitVec.toNat_ofNat, Nat.mod_eq_of_lt (by omega), show 3 % 2 ^ 64 = 2 ^ 2 - 1 by rfl, Nat.and_two_pow_sub_one_eq_mod]
  rw [this, wrap_i64 (by omega) (by omega)]

theorem flat_snoc (ws : List Nat) (x : Nat) : flat (ws ++ [x]) = flat ws ++ b4 x := by simp [flat]

theorem unp_step {tg : List UInt8} {i : Nat} (hi : i < 64) {d : List Nat} {r : List UInt8} : unp tg (64 - i) i d r = match dec d (tagAt tg i) r with
    | none => none
    | some w => (unp tg (64 - (i + 1)) (i + 1) (learn d w) (r.drop (size (tagAt tg i)))).map fun x => (w :: x.1, x.2) := by
  rw [show 64 - i = (64 - (i + 1)) + 1 by omega]
  simp only [unp]
  cases dec d (tagAt tg i) r with
  | none => rfl
  | some w =>
    dsimp only
    cases unp tg (64 - (i + 1)) (i + 1) (learn d w) (r.drop (size (tagAt tg i))) with
    | none => rfl
    | some x => rfl
theorem tagAt_lt (tg : List UInt8) (i : Nat) : tagAt tg i < 4 := Nat.mod_lt _ (by omega)

theorem expand_k3 {l : List UInt8} (hno : ¬ (l.length = 257 ∧ l.getD 0 0 = 0)) (hlen : l.length ≤ 1000000)
    (hQ : ∀ t b w', (b = true → expP l = some t) → (b = false → expP l = none) → Ext w w' (fun _ => False) → Q (.tuple #[.string (mkS t), .bool b]) w') :
    W.pagezip_expand_k3 (mkS l) w Q := by
  unfold W.pagezip_expand_k3
  rw [mkS_size]
  have hE : expP l = if l.length < 17 ∨ l.length > 256 ∨ l.getD 0 0 ≠ 1 then none else match unp ((l.take 17).drop 1) 64 0 d0 (l.drop 17) with
    | some (ws, []) => some (flat ws)
    | _ => none := by unfold expP; rw [if_neg hno] <;> rfl
  by_cases h17 : l.length < 17
  · rw [decide_eq_true (by omega), br_true]
    exact hQ [] false w (by simp) (fun _ => by rw [hE, if_pos (.inl h17)]) (Ext.refl _ _)
  rw [decide_eq_false (by omega), br_false]
  by_cases h256 : l.length > 256
  · rw [decide_eq_true (by omega), br_true]
    exact hQ [] false w (by simp) (fun _ => by rw [hE, if_pos (.inr (.inl h256))]) (Ext.refl _ _)
  rw [decide_eq_false (by omega), br_false]
  refine rq_r (sxn 0 (by omega)) ?_
  rw [fI_int]
  by_cases hf1 : l.getD 0 0 = 1
  case neg =>
    have : (l.getD 0 0).toNat ≠ 1 := fun h => hf1 (UInt8.toNat_inj.mp h)
    rw [show ((((l.getD 0 0).toNat : Nat) : Int) != 1) = true by rw [bne_iff_ne]; omega, br_true]
    exact hQ [] false w (by simp) (fun _ => by rw [hE, if_pos (.inr (.inr hf1))]) (Ext.refl _ _)
  have h1 : (l.getD 0 0).toNat = 1 := by rw [hf1]; rfl
  rw [h1, show (((1 : Nat) : Int) != 1) = false from rfl, br_false]
  rw [if_neg (by rintro (h | h | h) <;> first | omega | exact h hf1)] at hE
  show dr w _
  unfold dr
  refine rq_r (s_lh (by omega) (by omega) (by omega)) ?_
  rw [fT_str]
  refine rq_r (s_lo (by omega) (by omega)) ?_
  rw [fT_str]
  rw [show (17 : Int).toNat = 17 from rfl, show (1 : Int).toNat = 1 from rfl]
  have htgl : ((l.take 17).drop 1).length = 16 := by simp; omega
  generalize (l.take 17).drop 1 = tg at *
  have hr0 : (l.drop 17).length ≤ 256 := by simp; omega
  generalize l.drop 17 = r0 at *
  refine al_i fun db w1 hdb a1 e1 z1 => ?_
  rw [zero_dict] at a1
  refine al_i fun bb w2 hbb a2 e2 z2 => ?_
  have hz : (zeroT Try.prog 157).cells.toList = [.pointer none, .slice none 0 0] := by kernel_rfl
  rw [hz] at a2
  have e02 : Ext w w2 (fun _ => False) := e1.of_drew.tr e2
  have hszw : w1.heap.size = w.heap.size + 1 := z1
  have hdbw : db = w.heap.size := hdb
  refine LoopW.nat 64 (fun i x w' => ∃ ws d r, x = (mkS r, (i : Int), ()) ∧ ws.length = i ∧ unp tg 64 0 d0 r0 = (unp tg (64 - i) i d r).map (fun y => (ws ++ y.1, y.2)) ∧ r.length ≤ 256 ∧ Fine d ∧ At w' db (dcells d) 170 ∧ BldFrom w' bb bb (flat ws) ∧ Ext w w' (fun _ => False))
    ⟨[], d0, r0, rfl, rfl, by cases unp tg (64 - 0) 0 d0 r0 <;> rfl, hr0, fine_d0, a1.ext e2 (fun h => h), ⟨none, none, 0, 0, a2, .inl rfl, .inl ⟨rfl, rfl, rfl, rfl⟩, rfl, Nat.le_refl _, fun g hg => by cases hg⟩, e02⟩ ?_
  rintro i x w3 next hi ⟨ws, d, r, rfl, hws, hunp, hrl, hfd, hD, hB, he⟩ hnext
  dsimp only
  have hsz := he.size
  have hfl : (flat ws).length = 4 * i := by rw [flat_length, hws]
  by_cases hlt : i < 64
  case neg =>
    obtain rfl : i = 64 := by omega
    rw [decide_eq_false (by omega), br_false]
    unfold W.pagezip_expand_k19
    refine bstring_c hB (by intro h; rw [h] at hfl; simp at hfl) (by omega) fun w4 e4 => ?_
    rw [fT_str, mkS_nil]
    refine rq_r s_eq ?_
    rw [fB_bool]
    rw [Nat.sub_self, show unp tg 0 64 d r = some ([], r) from rfl, Option.map_some] at hunp
    dsimp only at hunp
    rw [List.append_nil] at hunp
    rw [hunp] at hE
    refine hQ _ _ w4 (fun hb => ?_) (fun hb => ?_) (he.trans e4 (fun _ _ h => h) (fun b' hb' h => by omega))
    · simp only [decide_eq_true_eq] at hb
      subst hb
      exact hE
    · simp only [decide_eq_false_iff_not] at hb
      rw [hE]
      cases r with
      | nil => exact absurd rfl hb
      | cons a b => rfl
  rw [decide_eq_true (by omega), br_true]
  have hq : IntKind.wrap .i64 (Int.tdiv (i : Int) 4) = ((i / 4 : Nat) : Int) := by
    rw [show Int.tdiv (i : Int) 4 = ((i / 4 : Nat) : Int) from rfl, wrap_i64 (by omega) (by omega)]
  have h2m : IntKind.wrap .i64 (2 * (Int.tmod (i : Int) 4)) = ((2 * (i % 4) : Nat) : Int) := by
    rw [show Int.tmod (i : Int) 4 = ((i % 4 : Nat) : Int) from rfl, wrap_i64 (by omega) (by omega)]
    push_cast; rfl
  rw [hq]
  refine rq_r (sxn (i / 4) (by omega)) ?_
  rw [fI_int]
  refine rq_r (shr_i (by omega) (by rw [h2m]; show _ ≤ ((8 : Nat) : Int); omega)) ?_
  rw [fI_int, tag_shift]
  have hbnd : ∀ x : UInt8, x.toNat / 4 ^ (i % 4) < 256 := fun x => Nat.lt_of_le_of_lt (Nat.div_le_self _ _) x.toNat_lt
  rw [band_i64 (hbnd _)]
  have htag : (tg.getD (i / 4) 0).toNat / 4 ^ (i % 4) % 4 = tagAt tg i := rfl
  rw [htag]
  have htl := tagAt_lt tg i
  rw [unp_step hlt] at hunp
  generalize tagAt tg i = t at *
  refine decode_c hD hfd htl (fun w4 x hx e4 => ⟨_, _, _, rfl, ?_⟩) (fun hx => ⟨_, _, _, rfl, ?_⟩)
  case refine_2 =>
    simp only [Bool.not_false, br_true]
    rw [hx] at hunp
    exact hQ [] false w3 (by simp) (fun _ => by rw [hE, hunp]; rfl) he
  simp only [Bool.not_true, br_false]
  rw [hx] at hunp
  have hxl := dec_lt hfd hx
  have hst : size t ≤ r.length := by
    unfold dec at hx
    split at hx
    · cases hx
    · omega
  refine rq_r (s_lo (by omega) (by omega)) ?_
  rw [fT_str, Int.toNat_natCast]
  have hdb : db < w.heap.size + 1 := by omega
  have hBlt : bb = w1.heap.size := hbb
  refine learn_c (hD.ext e4 (fun h => h)) hfd hxl fun w5 a5 e5 z5 => ⟨rfl, ?_⟩
  rw [wrap_byte, fdiv8, wrap_byte, fdiv16, wrap_byte, fdiv24, wrap_byte]
  refine al_i fun xb w6 hxb a6 e6 z6 => ?_
  have e35 : Ext w3 w5 (· = db) := (e4.of0 (X := (· = db))).tr e5
  have e36 : Ext w3 w6 (· = db) := e35.tr0 e6
  have hB6 : BldFrom w6 bb bb (flat ws) := by
    obtain ⟨p, a, n, c, h1, h2, h3, h4, h5, h6⟩ := hB
    exact ⟨p, a, n, c, h1.ext e36 (by omega), h2, h3.ext e36 (fun g hg hx => by have := (h6 g hg).2; omega), h4, h5, h6⟩
  have hD6 := a5.ext e6 (fun h => h)
  have hs3 := e36.size
  have hbb3 : bb < w3.heap.size := by
    obtain ⟨p, a, n, c, h1, _⟩ := hB
    exact h1.lt
  have hs5 := e35.size
  refine bwrite_c (l' := b4 x) hB6 (.inr ⟨_, rfl, fun j hj => by rw [add_mk, a6.cell, Nat.zero_add]; rfl⟩) (fun g hg => by cases hg; show xb ≠ bb; omega) rfl (by rw [hfl, b4_length]; omega) (by omega) fun w7 hB7 e7 => ⟨_, _, rfl, ?_⟩
  rw [wrap_i64 (by omega) (by omega)]
  refine hnext hlt _ _ ⟨ws ++ [x], learn d x, r.drop (size t), rfl, by rw [List.length_append, hws]; rfl, ?_, by simp; omega, fine_learn hfd hxl, hD6.ext e7 (by omega), by rw [flat_snoc]; exact hB7, (he.trans e36 (fun _ _ h => h) (fun b' hb' h => by omega)).trans e7 (fun _ _ h => h) (fun b' hb' h => by omega)⟩
  rw [hunp]
  dsimp only
  cases unp tg (64 - (i + 1)) (i + 1) (learn d x) (r.drop (size t)) with
  | none => rfl
  | some y => simp

theorem expand_c {l : List UInt8} (hlen : l.length ≤ 1000000)
    (hQ : ∀ t b w', (b = true → expP l = some t) → (b = false → expP l = none) → Ext w w' (fun _ => False) → Q (.tuple #[.string (mkS t), .bool b]) w') :
    CallE Try.prog 123 #[.string (mkS l)] w Q := by
  apply C.pagezip_expand
  unfold W.pagezip_expand
  rw [mkS_size]
  by_cases h257 : l.length = 257
  case neg =>
    rw [show (((l.length : Nat) : Int) == 257) = false by simp; omega, br_false]
    exact expand_k3 (by omega) hlen hQ
  rw [show (((l.length : Nat) : Int) == 257) = true by simp; omega, br_true]
  refine rq_r (sxn 0 (by omega)) ?_
  rw [fI_int]
  by_cases h0 : l.getD 0 0 = 0
  · have h1 : (l.getD 0 0).toNat = 0 := by rw [h0]; rfl
    rw [h1, show (((0 : Nat) : Int) == 0) = true from rfl, br_true]
    refine rq_r (s_lo (by omega) (by omega)) ?_
    rw [fT_str]
    exact hQ _ true w (fun _ => by unfold expP; rw [if_pos ⟨h257, h0⟩]; rfl) (by simp) (Ext.refl _ _)
  · have : (l.getD 0 0).toNat ≠ 0 := fun h => h0 (UInt8.toNat_inj.mp h)
    rw [show ((((l.getD 0 0).toNat : Nat) : Int) == 0) = false by rw [beq_eq_false_iff_ne]; omega, br_false]
    exact expand_k3 (fun h => h0 h.2) hlen hQ

theorem expP_length {l p : List UInt8} (h : expP l = some p) : p.length = 256 := by
  unfold expP at h
  split at h
  · rename_i hl
    simp only [Option.some.injEq] at h
    rw [← h, List.length_drop]; omega
  split at h
  · cases h
  split at h
  · rename_i ws hu
    simp only [Option.some.injEq] at h
    rw [← h, flat_length, unp_length _ _ _ _ _ _ _ hu]
  · cases h

theorem decompress_c {l : List UInt8} (hlen : l.length ≤ 1000000) (hQ : ∀ w', Ext w w' (fun _ => False) → Q (.tuple #[.string (mkS (back (expP l) l).1), .int .i64 (back (expP l) l).2]) w') :
    CallE Try.prog 119 #[.string (mkS l)] w Q := by
  apply C.pagezip_Decompress
  unfold W.pagezip_Decompress
  refine expand_c hlen fun t b w1 h1 h2 e1 => ⟨_, _, rfl, ?_⟩
  cases b with
  | false =>
    simp only [Bool.not_false, br_true]
    have := hQ w1 e1
    rw [h2 rfl] at this
    exact this
  | true =>
    simp only [Bool.not_true, br_false]
    have hE := h1 rfl
    rw [hE] at hQ
    refine compress_c (expP_length hE) fun w2 e2 => ⟨_, _, rfl, ?_⟩
    rw [show ((0 : Int) != 0) = false from rfl, br_false]
    refine rq_r s_ne ?_
    rw [fB_bool]
    have fin := hQ w2 (e1.tr e2)
    unfold back at fin
    dsimp only at fin
    by_cases hc : comp t = l
    · rw [if_pos hc] at fin
      rw [decide_eq_true hc, Bool.not_true, br_false]
      exact fin
    · rw [if_neg hc] at fin
      rw [decide_eq_false hc, Bool.not_false, br_true]
      exact fin
end
end Go.Proofs.Ytpinpccamfhofaa.Pz

/-
  Page compression: contracts of the reference's Compress, unpack and Decompress. No condition beyond those stated.
-/
set_option maxRecDepth 100000
namespace Go.Proofs.Ytpinpccamfhofaa.Pz
open Go Go.Ev Go.Proofs

theorem getD_drop (l : List UInt8) (n j : Nat) : (l.drop n).getD j 0 = l.getD (n + j) 0 := by
  rw [List.getD_eq_getElem?_getD, List.getD_eq_getElem?_getD, List.getElem?_drop]
theorem word_at (l : List UInt8) (n : Nat) : word (l.drop n) = (l.getD n 0).toNat + (l.getD (n + 1) 0).toNat * 256 + (l.getD (n + 2) 0).toNat * 65536 + (l.getD (n + 3) 0).toNat * 16777216 := by
  simp only [word, getD_drop, Nat.add_zero]
theorem pk_snoc0 (ts : List Nat) : pk (ts ++ [0]) = pk ts := by
  have h : ∀ i, (ts ++ [0]).getD i 0 = ts.getD i 0 := by
    intro i
    rw [getD_snoc]
    split
    · rename_i h; subst h; rw [getD_ge _ (Nat.le_refl _)]
    · rfl
  unfold pk tb
  simp only [h]
theorem idx_i64 {a : Nat} (h : a ≤ 1000000000) (j : Nat) (hj : j ≤ 1000000000) : IntKind.wrap .i64 ((a : Int) + (j : Int)) = ((a + j : Nat) : Int) := by
  rw [wrap_i64 (by omega) (by omega)]; push_cast; rfl
theorem two_mod (i : Nat) : IntKind.wrap .u64 (IntKind.wrap .i64 (2 * (Int.tmod (i : Int) 4))) = ((2 * (i % 4) : Nat) : Int) := by
  rw [show Int.tmod (i : Int) 4 = ((i % 4 : Nat) : Int) from rfl, wrap_i64 (by omega) (by omega), wrap_u64 (by omega) (by omega)]
  push_cast; rfl
theorem pow_two_mod (i : Nat) : ((2 : Int) ^ (2 * (i % 4))) = ((4 ^ (i % 4) : Nat) : Int) := by
  rw [show (4 : Nat) ^ (i % 4) = 2 ^ (2 * (i % 4)) by rw [Nat.pow_mul], Int.natCast_pow]; rfl
theorem pow4_le (i : Nat) : 4 ^ (i % 4) ≤ 64 := by
  rcases (show i % 4 = 0 ∨ i % 4 = 1 ∨ i % 4 = 2 ∨ i % 4 = 3 by omega) with h | h | h | h <;> rw [h] <;> decide

/-- The byte of tags, with one tag more, by a sum. -/
theorem tag_sum {ts : List Nat} {t i : Nat} (hts : ∀ x ∈ ts, x < 4) (ht : t < 4) (hl : ts.length = i) :
    IntKind.wrap .u8 (((UInt8.ofNat (tb ts (i / 4))).toNat : Int) + IntKind.wrap .u8 ((t : Int) * 2 ^ (((2 * (i % 4) : Nat) : Int)).toNat)) = ((UInt8.ofNat (tb ts (i / 4) + t * 4 ^ (i % 4))).toNat : Int) := by
  have hlow := tb_low hts
  rw [hl] at hlow
  have h5 := pow4_le i
  have h7 : (t + 1) * 4 ^ (i % 4) ≤ 4 * 64 := Nat.mul_le_mul (by omega) h5
  rw [Nat.add_mul, Nat.one_mul] at h7
  rw [Int.toNat_natCast, pow_two_mod, ← Int.natCast_mul, UInt8.toNat_ofNat', UInt8.toNat_ofNat']
  generalize t * 4 ^ (i % 4) = q at *
  generalize tb ts (i / 4) = p at *
  rw [wrap_u8', wrap_u8']
  omega
theorem slot_u32 (n : Nat) : Int.tmod (Int.fdiv (n : Int) (2 ^ 16)) 16 = (slot n : Int) := by
  rw [fdiv16]; rfl

section
variable {w : World} {Q : Value → World → Prop}

/-- What holds after i words. -/
structure CmpR (U w : World) (db tb : Nat) (la : Option Addr) (n c : Nat) (r : List Nat × List Nat × List UInt8) : Prop where
  d : At w db (dcells r.1) 169
  t : At w tb (by_ (pk r.2.1)) 5
  s : Sl w 5 1 la n c (by_ r.2.2)
  n : n = r.2.2.length
  ne : db ≠ tb
  lo : U.heap.size ≤ db ∧ U.heap.size ≤ tb
  sb : ∀ b, la = some ⟨b, 0, none⟩ → b ≠ db ∧ b ≠ tb ∧ U.heap.size ≤ b
  e : Ext U w (fun _ => False)

theorem CmpR.app {U w w1 : World} {db tb : Nat} {la la' : Option Addr} {n n' c c' : Nat} {d ts : List Nat} {bd bs : List UInt8} (h : CmpR U w db tb la n c (d, ts, bd)) (hs : Sl w1 5 1 la' n' c' (by_ (bd ++ bs))) (hn : n' = n + bs.length) (hor : ∀ b, la' = some ⟨b, 0, none⟩ → la = some ⟨b, 0, none⟩ ∨ w.heap.size ≤ b) (e : Ext w w1 (fun b => la = some ⟨b, 0, none⟩)) :
    CmpR U w1 db tb la' n' c' (d, ts, bd ++ bs) := by
  have h1 := h.d.lt; have h2 := h.t.lt; have h3 := h.e.size
  refine ⟨h.d.ext e (fun hx => (h.sb _ hx).1 rfl), h.t.ext e (fun hx => (h.sb _ hx).2.1 rfl), hs, by rw [hn, h.n]; simp, h.ne, h.lo, fun b hb => ?_, h.e.trans e (fun _ _ h => h) (fun b' hb' hx => by have := (h.sb _ hx).2.2; omega)⟩
  rcases hor b hb with hx | hx
  · exact h.sb b hx
  · exact ⟨by omega, by omega, by omega⟩

theorem refCompress_k20 {U : World} {db tb' : Nat} {la : Option Addr} {n c i : Nat} {l : List UInt8} {d ts : List Nat} {bd : List UInt8} {x t : Nat} {next : ((Option Addr × Nat × Nat) × Int × Unit) → World → Prop}
    (h : CmpR U w db tb' la n c (d, ts, bd)) (hf : Fine d) (hts : ∀ x ∈ ts, x < 4) (htl : ts.length = i) (ht : t < 4) (hx0 : x ≠ 0) (hi : i < 64)
    (hn : ∀ w', CmpR U w' db tb' la n c (learn d x, ts ++ [t], bd) → next ((la, n, c), ((i + 1 : Nat) : Int), ()) w') :
    W.ref33_Compress_k20 (mkS l) ⟨db, 0, none⟩ (some ⟨tb', 0, none⟩) 16 16 la n c (i : Int) (x : Int) (slot x : Int) (t : Int) next w Q := by
  unfold W.ref33_Compress_k20
  have hpl := pk_length ts
  have hs := slot_lt x
  rw [show IntKind.wrap .i64 (Int.tdiv (i : Int) 4) = ((i / 4 : Nat) : Int) by rw [show Int.tdiv (i : Int) 4 = ((i / 4 : Nat) : Int) from rfl, wrap_nat (by omega)], two_mod]
  refine ixb (i / 4) 1 5 (by omega) ?_
  refine ldI h.t (x := ((UInt8.ofNat (tb ts (i / 4))).toNat : Int)) ?_ ?_
  · rw [Nat.mul_one, by_get]
    have : (pk ts)[i / 4]? = some (UInt8.ofNat (tb ts (i / 4))) := by
      simp only [pk, List.getElem?_map, List.getElem?_range (show i / 4 < 16 by omega)]; rfl
    rw [this]; rfl
  refine qI (shl_i (by omega) (by show _ ≤ ((8 : Nat) : Int); omega)) ?_
  refine ixb (i / 4) 1 5 (by omega) ?_
  rw [tag_sum hts ht htl]
  refine st_i h.t (by rw [by_length]; show i / 4 * 1 < (pk ts).length; omega) fun w1 a1 e1 z1 => ?_
  rw [by_set, Nat.mul_one] at a1
  have a1' : At w1 tb' (by_ (pk (ts ++ [t]))) 5 := by rw [pk_snoc (by omega), htl]; exact a1
  have d1 := h.d.ext e1 h.ne
  refine ixa (slot x) 16 1 119 hs ?_
  refine st_i d1 (by rw [dcells_length]; show _ < d.length; rw [hf.1]; omega) fun w2 a2 e2 z2 => ?_
  rw [dcells_set, Nat.mul_one] at a2
  rw [inc_nat (by omega)]
  have e12 : Ext w w2 (fun b => b = db ∨ b = tb') := e1.trans e2 (fun _ _ h => .inr h) (fun _ _ h => .inl h)
  refine hn w2 ⟨?_, a1'.ext e2 (Ne.symm h.ne), h.s.ext e12 (fun b hb hx => by rcases hx with hx | hx; exact (h.sb b hb).1 hx; exact (h.sb b hb).2.1 hx), h.n, h.ne, h.lo, h.sb, h.e.trans e12 (fun _ _ h => h) (fun b' hb' hx => by have := h.lo; omega)⟩
  unfold learn
  rw [if_neg hx0]
  exact a2

theorem zero_dictR : (zeroT Try.prog 169).cells.toList = dcells d0 := by kernel_rfl

theorem refCompress_c {l : List UInt8} (hl : l.length = 256) (hQ : ∀ w', Ext w w' (fun _ => False) → Q (.tuple #[.string (mkS (comp l)), .int .i64 0]) w') :
    CallE Try.prog 107 #[.string (mkS l)] w Q := by
  apply C.ref33_Compress
  unfold W.ref33_Compress
  rw [mkS_size, hl, show (((256 : Nat) : Int) != 256) = false from rfl, br_false]
  refine al_i fun db w1 hdb a1 e1 z1 => ?_
  rw [zero_dictR] at a1
  refine mkB (n := 16) 5 (by omega) fun tb' w2 htb a2 e2 z2 => ?_
  refine LoopW.nat 64 (fun i x w' => ∃ la n c, x = ((la, n, c), (i : Int), ()) ∧ CmpR w w' db tb' la n c (run d0 ((words l).take i)))
    ⟨none, 0, 0, rfl, a1.ext e2 (fun h => h), by rw [show (run d0 (List.take 0 (words l))).2.1 = [] from rfl, pk_nil]; exact a2, .inl ⟨rfl, rfl, rfl, rfl⟩, rfl, by omega, by omega, (fun b hb => by cases hb), e1.tr e2⟩ ?_
  rintro i x w3 next hi ⟨la, n, c, rfl, h⟩ hnext
  dsimp only
  by_cases hlt : i < 64
  case neg =>
    rw [decide_eq_false (by omega), br_false]
    rw [List.take_of_length_le (by rw [words_length]; omega)] at h
    unfold W.ref33_Compress_k22
    have hbl := run_body_le (words l) d0
    rw [words_length] at hbl
    have hn := h.n
    have hpl := pk_length (run d0 (words l)).2.1
    unfold comp at hQ
    rw [show (17 : Int) + ((n : Nat) : Int) = ((17 + n : Nat) : Int) by push_cast; rfl, wrap_nat (by omega)]
    by_cases hgt : 17 + (run d0 (words l)).2.2.length > 256
    · rw [if_pos hgt] at hQ
      rw [decide_eq_true (by omega), br_true]
      refine qT (s_add (a := [0]) (by simp [hl])) ?_
      exact hQ w3 h.e
    rw [if_neg hgt] at hQ
    rw [decide_eq_false (by omega), br_false]
    refine bsT h.t hpl ?_
    refine qT (s_add (a := [1]) (by simp [hpl])) ?_
    refine slT h.s hn.symm ?_
    refine qT (s_add (by simp [hpl]; omega)) ?_
    exact hQ w3 h.e
  rw [decide_eq_true (by omega), br_true]
  have hrun := run_take l hlt d0
  have hfine := fine_run ((words l).take i) d0 fine_d0 (fun x hx => words_lt l x (List.mem_of_mem_take hx))
  have htl := run_tags_length ((words l).take i) d0
  have htlt := run_tags_lt ((words l).take i) d0
  have hble := run_body_le ((words l).take i) d0
  rw [List.length_take, words_length, Nat.min_eq_left (by omega)] at htl hble
  generalize hr : run d0 ((words l).take i) = r at *
  obtain ⟨d, ts, bd⟩ := r
  dsimp only at *
  have hxlt := word_lt (l.drop (4 * i))
  rw [show IntKind.wrap .i64 (4 * (i : Int)) = ((4 * i : Nat) : Int) by rw [wrap_i64 (by omega) (by omega)]; push_cast; rfl]
  rw [show IntKind.wrap .i64 (((4 * i : Nat) : Int) + 1) = ((4 * i + 1 : Nat) : Int) from idx_i64 (by omega) 1 (by omega), show IntKind.wrap .i64 (((4 * i : Nat) : Int) + 2) = ((4 * i + 2 : Nat) : Int) from idx_i64 (by omega) 2 (by omega), show IntKind.wrap .i64 (((4 * i : Nat) : Int) + 3) = ((4 * i + 3 : Nat) : Int) from idx_i64 (by omega) 3 (by omega)]
  show dr w3 _
  unfold dr
  refine qI (sxn (4 * i) (by omega)) ?_
  refine qI (sxn (4 * i + 1) (by omega)) ?_
  refine qI (sxn (4 * i + 2) (by omega)) ?_
  refine qI (sxn (4 * i + 3) (by omega)) ?_
  simp only [word_add]
  rw [← word_at]
  have hC : CmpR w (drew w3) db tb' la n c (d, ts, bd) := ⟨h.d, h.t, h.s, h.n, h.ne, h.lo, h.sb, h.e.drew_⟩
  generalize drew w3 = wd at *
  generalize word (l.drop (4 * i)) = x at *
  by_cases hx0 : x = 0
  · subst hx0
    rw [show (((0 : Nat) : Int) == 0) = true from rfl, br_true, inc_nat (by omega)]
    refine hnext hlt _ _ ⟨la, n, c, rfl, ?_⟩
    rw [hrun, show learn d 0 = d from rfl, show tag d 0 = 0 by simp [tag], show body d 0 = [] by simp [body, tag], List.append_nil]
    exact ⟨hC.d, by rw [pk_snoc0]; exact hC.t, hC.s, hC.n, hC.ne, hC.lo, hC.sb, hC.e⟩
  rw [show ((x : Int) == 0) = false by rw [beq_eq_false_iff_ne]; omega, br_false]
  simp only [slot_u32]
  have hslot := slot_lt x
  have hnn : n = bd.length := h.n
  have step : ∀ {w7 : World} {la' : Option Addr} {n' c' t : Nat} {bs : List UInt8}, t = tag d x → bs = body d x → CmpR w w7 db tb' la' n' c' (d, ts, bd ++ bs) → W.ref33_Compress_k20 (mkS l) ⟨db, 0, none⟩ (some ⟨tb', 0, none⟩) 16 16 la' n' c' (i : Int) (x : Int) (slot x : Int) (t : Int) next w7 Q := by
    intro w7 la' n' c' t bs ht hbs h7
    refine refCompress_k20 h7 hfine htlt htl (by rw [ht]; exact tag_lt d x) hx0 hlt fun w8 h8 => ?_
    refine hnext hlt _ _ ⟨la', n', c', rfl, ?_⟩
    rw [hrun, ← hbs, ← ht]
    exact h8
  refine ixa (slot x) 16 1 119 hslot ?_
  refine ldI hC.d (by rw [Nat.mul_one]; exact dcells_getD (by rw [hfine.1]; exact hslot)) ?_
  have htag : tag d x = if x = d.getD (slot x) 0 then 1 else if x / 65536 = d.getD (slot x) 0 / 65536 then 2 else 3 := by unfold tag; rw [if_neg hx0]
  by_cases h1 : x = d.getD (slot x) 0
  · rw [if_pos h1] at htag
    rw [show (((d.getD (slot x) 0 : Nat) : Int) == (x : Int)) = true by rw [beq_iff_eq]; omega, br_true, wrap_byte]
    refine al_ap (bs := [UInt8.ofNat (slot x)]) rfl rfl hC.s (by omega) fun a' c' w7 s7 hor e7 => ?_
    exact step htag.symm (by unfold body; rw [htag]; rfl) (hC.app s7 rfl hor e7)
  rw [if_neg h1] at htag
  rw [show (((d.getD (slot x) 0 : Nat) : Int) == (x : Int)) = false by rw [beq_eq_false_iff_ne]; omega, br_false]
  refine ixa (slot x) 16 1 119 hslot ?_
  refine ldI hC.d (by rw [Nat.mul_one]; exact dcells_getD (by rw [hfine.1]; exact hslot)) ?_
  rw [fdiv16, fdiv16]
  by_cases h2 : x / 65536 = d.getD (slot x) 0 / 65536
  · rw [if_pos h2] at htag
    rw [show (((d.getD (slot x) 0 / 65536 : Nat) : Int) == ((x / 65536 : Nat) : Int)) = true by rw [beq_iff_eq]; omega, br_true, wrap_byte, wrap_byte, fdiv8, wrap_byte]
    refine al_ap (bs := [UInt8.ofNat (slot x), UInt8.ofNat x, UInt8.ofNat (x / 256)]) rfl rfl hC.s (by omega) fun a' c' w7 s7 hor e7 => ?_
    exact step htag.symm (by unfold body; rw [htag]; rfl) (hC.app s7 rfl hor e7)
  · rw [if_neg h2] at htag
    rw [show (((d.getD (slot x) 0 / 65536 : Nat) : Int) == ((x / 65536 : Nat) : Int)) = false by rw [beq_eq_false_iff_ne]; omega, br_false]
    rw [wrap_byte, fdiv8, wrap_byte, wrap_byte, fdiv24, wrap_byte]
    refine al_ap (bs := b4 x) rfl rfl hC.s (by omega) fun a' c' w7 s7 hor e7 => ?_
    exact step htag.symm (by unfold body; rw [htag]; rfl) (hC.app s7 rfl hor e7)

theorem refCompress_bad {l : List UInt8} (hl : l.length ≠ 256) (hQ : Q (.tuple #[.string (mkS []), .int .i64 1]) w) : CallE Try.prog 107 #[.string (mkS l)] w Q := by
  apply C.ref33_Compress
  unfold W.ref33_Compress
  rw [mkS_size, show (((l.length : Nat) : Int) != 256) = true by simp; omega, br_true]
  exact hQ
end
end Go.Proofs.Ytpinpccamfhofaa.Pz

/-
  Page compression: the statements' helpers: the page that words determine. No condition beyond those stated.
-/
set_option maxRecDepth 100000
namespace Go.Proofs.Ytpinpccamfhofaa.Pz
open Go Go.Ev Go.Proofs Go.ChangeShapes Go.WideShapes Go.ChangeAt Go.RowKit

/-- A slice of n words that came in. -/
def U32s (w : World) (l : Option Addr) (n : Nat) : Prop := n = 0 ∨ ∃ a, l = some a ∧ a.block < w.heap.size ∧ ∀ i, i < n → ∃ x : Int, w.cell? (a.add i) = some (.int .u32 x)
theorem add_block' (a : Addr) (n : Nat) : (a.add n).block = a.block := by unfold Addr.add; split <;> rfl
theorem U32s.ext {w w' : World} {l : Option Addr} {n : Nat} (h : U32s w l n) (he : Ext w w' (fun _ => False)) : U32s w' l n := by
  rcases h with h | ⟨a, rfl, hlt, hc⟩
  · exact .inl h
  · refine .inr ⟨a, rfl, Nat.lt_of_lt_of_le hlt he.size, fun i hi => ?_⟩
    obtain ⟨x, hx⟩ := hc i hi
    exact ⟨x, by rw [← hx]; exact cell_ext he (by rw [add_block']; exact hlt) (fun h => h)⟩

section
variable {H : Type} {enc : TypeId × Value → H}
theorem open_words {W : World} {v : Value} {d : DataW H} {p : List MemPlace} {r : Reach} {b0 : Nat} (hv : Value.okWide Try.prog W r b0 79 v)
    (h : DataW.Trod enc Try.prog W 0 (fun _ => true) true 79 v d p) : ∃ (l : Option Addr) (n c : Nat), v = .slice l n c ∧ U32s W l n := by
  rcases open_sl (e := 119) (by kernel_rfl) hv h with rfl | ⟨a, len, cap, rfl, hl, hm, hi⟩
  · exact ⟨none, 0, 0, rfl, .inl rfl⟩
  · refine ⟨some a, len, cap, rfl, ?_⟩
    have hc1 : Try.prog.cellsOf 119 = 1 := by kernel_rfl
    rw [hc1] at hi
    have key : ∀ i, i < len → ∃ x : Int, W.cell? (a.add i) = some (.int .u32 x) := by
      intro i him
      obtain ⟨cs, n, y, hcl, hat, hy⟩ := hi i him
      obtain ⟨x, hx, _⟩ := DataW.trod_int (k := .u32) (by kernel_rfl) hy
      refine ⟨x, ?_⟩
      have := hat 0 (by omega)
      rw [Nat.mul_one, Nat.add_zero, hx] at this
      exact this
    by_cases h0 : len = 0
    · exact .inl h0
    · obtain ⟨x, hx⟩ := key 0 (by omega)
      have := cell_lt hx
      rw [add_block'] at this
      exact .inr ⟨a, rfl, this, key⟩
theorem open_string {W : World} {v : Value} {d : DataW H} {p : List MemPlace} {r : Reach} {b0 : Nat} (hv : Value.okWide Try.prog W r b0 9 v)
    (h : DataW.Trod enc Try.prog W 0 (fun _ => true) true 9 v d p) : ∃ l : List UInt8, v = .string (mkS l) := by
  obtain ⟨s, rfl⟩ := okWide_string (by kernel_rfl) hv
  exact ⟨s.data.toList, by rw [← mkS_of]⟩
end

theorem wrap_any (x : Int) : ∃ b : UInt8, IntKind.wrap .u8 x = (b.toNat : Int) := by
  refine ⟨UInt8.ofNat (x % 256).toNat, ?_⟩
  rw [wrap_u8', UInt8.toNat_ofNat']
  omega

section
variable {w : World} {Q : Value → World → Prop}

/-- make([]byte, n) -/
theorem mk_b {k k' : IntKind} {n : Int} {K : Value → World → Prop} (h0 : 0 ≤ n) (h1 : n ≤ 1000000)
    (hK : ∀ b w', b = w.heap.size → At w' b (by_ (List.replicate n.toNat 0)) 5 → Ext w w' (fun _ => False) → w'.heap.size = w.heap.size + 1 → K (.slice (some ⟨b, 0, none⟩) n.toNat n.toNat) w') :
    rv Try.prog (Instr.makeSlice 82 (.int k n) (.int k' n)) w K := by
  refine mk_i 5 1 h0 (by omega) fun b w' hb a e z => hK b w' hb ?_ e z
  have hz : zeroL Try.prog 5 = [.int .u8 0] := by kernel_rfl
  rw [hz, zeros_one] at a
  rw [show by_ (List.replicate n.toNat 0) = List.replicate n.toNat (Value.int .u8 0) by simp [by_]]
  exact a

theorem page_k18 {U : World} {wl : Option Addr} {wn wc b i : Nat} {l : List UInt8} {st x : Int} {T : TypeId} {next : (Int × Unit) → World → Prop} (ha : At w b (by_ l) T) (hl : l.length = 256) (hi : i < 64) (hb : U.heap.size ≤ b) (e0 : Ext U w (fun _ => False))
    (hn : ∀ l' w', l'.length = 256 → At w' b (by_ l') T → Ext U w' (fun _ => False) → next (((i + 1 : Nat) : Int), ()) w') :
    W.law33_Page_k18 wl wn wc st (some ⟨b, 0, none⟩) 256 256 (i : Int) x next w Q := by
  unfold W.law33_Page_k18
  refine LoopW.nat 4 (fun j y w' => ∃ l', y = ((j : Int), ()) ∧ l'.length = 256 ∧ At w' b (by_ l') T ∧ Ext U w' (fun _ => False)) ⟨l, rfl, hl, ha, e0⟩ ?_
  rintro j y w1 nxt hj ⟨l', rfl, hl', a1, e1⟩ hnxt
  dsimp only
  by_cases hlt : j < 4
  case neg =>
    rw [decide_eq_false (by omega), br_false, wrap_i64 (by omega) (by omega)]
    exact hn l' w1 hl' a1 e1
  rw [decide_eq_true (by omega), br_true]
  rw [wrap_i64 (x := 8 * (j : Int)) (by omega) (by omega), wrap_u64 (by omega) (by omega), wrap_i64 (x := 4 * (i : Int)) (by omega) (by omega), wrap_i64 (x := 4 * (i : Int) + (j : Int)) (by omega) (by omega)]
  refine rq_r (shr_i (by omega) (by show 8 * (j : Int) ≤ ((32 : Nat) : Int); omega)) ?_
  rw [fI_int]
  refine ix_sl 1 5 (by omega) (by omega) ?_
  rw [fA_ptr, add_mk, Nat.zero_add, Nat.mul_one]
  obtain ⟨z, hz⟩ := wrap_any (Int.fdiv x (2 ^ (8 * (j : Int)).toNat))
  rw [hz]
  refine st_i a1 (by rw [by_length]; omega) fun w2 a2 e2 z2 => ?_
  rw [by_set] at a2
  rw [wrap_i64 (by omega) (by omega)]
  exact hnxt hlt _ _ ⟨_, rfl, by simpa using hl', a2, e1.trans e2 (fun _ _ h => h) (fun b' hb' h => by omega)⟩

theorem page_k11 {U : World} {wl : Option Addr} {wn wc b i : Nat} {l : List UInt8} {st x : Int} {T : TypeId} {next : (Int × Unit) → World → Prop} (ha : At w b (by_ l) T) (hl : l.length = 256) (hi : i < 64) (hb : U.heap.size ≤ b) (e0 : Ext U w (fun _ => False))
    (hn : ∀ l' w', l'.length = 256 → At w' b (by_ l') T → Ext U w' (fun _ => False) → next (((i + 1 : Nat) : Int), ()) w') :
    W.law33_Page_k11 wl wn wc st (some ⟨b, 0, none⟩) 256 256 (i : Int) x next w Q := by
  unfold W.law33_Page_k11
  refine br_of (fun _ => page_k18 ha hl hi hb e0 hn) (fun _ => br_of (fun _ => page_k18 ha hl hi hb e0 hn) (fun _ => br_of (fun _ => page_k18 ha hl hi hb e0 hn) (fun _ => page_k18 ha hl hi hb e0 hn)))

theorem page_k8 {U : World} {wl : Option Addr} {wn wc b i : Nat} {l : List UInt8} {st k : Int} {T : TypeId} {next : (Int × Unit) → World → Prop} (hU : U32s U wl wn) (hk : 0 ≤ k) (ha : At w b (by_ l) T) (hl : l.length = 256) (hi : i < 64) (hb : U.heap.size ≤ b) (e0 : Ext U w (fun _ => False))
    (hn : ∀ l' w', l'.length = 256 → At w' b (by_ l') T → Ext U w' (fun _ => False) → next (((i + 1 : Nat) : Int), ()) w') :
    W.law33_Page_k8 wl wn wc st (some ⟨b, 0, none⟩) 256 256 (i : Int) k next w Q := by
  unfold W.law33_Page_k8
  refine br_of (fun h => ?_) (fun _ => page_k11 ha hl hi hb e0 hn)
  simp only [decide_eq_true_eq] at h
  rcases hU.ext e0 with h0 | ⟨a, rfl, _, hc⟩
  · omega
  · refine ix_sl 1 119 (by omega) h ?_
    rw [fA_ptr, Nat.mul_one]
    obtain ⟨x, hx⟩ := hc k.toNat (by omega)
    refine ld_c hx ?_
    rw [fI_int]
    exact page_k11 ha hl hi hb e0 hn

theorem page_c {wl : Option Addr} {wn wc : Nat} {st : Int} (hU : U32s w wl wn) (hs0 : 0 ≤ st) (hs1 : st ≤ 255) (hQ : ∀ l w', l.length = 256 → Ext w w' (fun _ => False) → Q (.string (mkS l)) w') :
    CallE Try.prog 42 #[.slice wl wn wc, .int .u8 st] w Q := by
  apply C.law33_Page
  unfold W.law33_Page
  refine mk_b (by omega) (by omega) fun b w1 hb a1 e1 z1 => ?_
  rw [fS_slice]
  rw [show (256 : Int).toNat = 256 from rfl] at *
  refine LoopW.nat 64 (fun i y w' => ∃ l, y = ((i : Int), ()) ∧ l.length = 256 ∧ At w' b (by_ l) 5 ∧ Ext w w' (fun _ => False)) ⟨_, rfl, List.length_replicate, a1, e1⟩ ?_
  rintro i y w2 next hi ⟨l, rfl, hl, a2, e2⟩ hnext
  dsimp only
  have fin : W.law33_Page_k22 (some ⟨b, 0, none⟩) 256 256 w2 Q := by
    unfold W.law33_Page_k22
    refine bs_str (l := l) (.inr ⟨_, rfl, fun j hj => by rw [add_mk, a2.cell, Nat.zero_add]⟩) hl ?_
    rw [fT_str]
    exact hQ l w2 hl e2
  by_cases hlt : i < 64
  case neg =>
    rw [decide_eq_false (by omega), br_false]
    exact fin
  rw [decide_eq_true (by omega), br_true]
  have hn : ∀ l' w', l'.length = 256 → At w' b (by_ l') 5 → Ext w w' (fun _ => False) → next (((i + 1 : Nat) : Int), ()) w' := fun l' w' h1 h2 h3 => hnext hlt _ _ ⟨l', rfl, h1, h2, h3⟩
  refine br_of (fun _ => br_of (fun _ => ?_) (fun _ => page_k8 hU (by omega) a2 hl hlt (by omega) e2 hn)) (fun _ => fin)
  rw [wrap_i64 (x := st) (by omega) (by omega), wrap_i64 (x := 1 + st) (by omega) (by omega)]
  refine rem_i (by omega) ?_
  rw [fI_int]
  exact page_k8 hU (Int.tmod_nonneg _ (by omega)) a2 hl hlt (by omega) e2 hn

end
end Go.Proofs.Ytpinpccamfhofaa.Pz
