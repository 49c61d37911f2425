/-
  Page compression: the plain form. No program in sight.
-/
import Derived.Test.YtpgekajgbkbpkaaStr
namespace Go.Proofs.Ytpgekajgbkbpkaa.Pz
open Go Go.Ev

def b4 (w : Nat) : List UInt8 := [UInt8.ofNat w, UInt8.ofNat (w / 256), UInt8.ofNat (w / 65536), UInt8.ofNat (w / 16777216)]
def word (l : List UInt8) : Nat := (l.getD 0 0).toNat + (l.getD 1 0).toNat * 256 + (l.getD 2 0).toNat * 65536 + (l.getD 3 0).toNat * 16777216
def slot (w : Nat) : Nat := w / 65536 % 16
def tag (d : List Nat) (w : Nat) : Nat :=
  if w = 0 then 0 else if w = d.getD (slot w) 0 then 1 else if w / 65536 = d.getD (slot w) 0 / 65536 then 2 else 3
def body (d : List Nat) (w : Nat) : List UInt8 :=
  if tag d w = 1 then [UInt8.ofNat (slot w)] else if tag d w = 2 then [UInt8.ofNat (slot w), UInt8.ofNat w, UInt8.ofNat (w / 256)] else if tag d w = 3 then b4 w else []
def learn (d : List Nat) (w : Nat) : List Nat := if w = 0 then d else d.set (slot w) w

/-- The dictionary, the tags and the rest after some words. -/
def run : List Nat → List Nat → List Nat × List Nat × List UInt8
  | d, [] => (d, [], [])
  | d, w :: ws => ((run (learn d w) ws).1, tag d w :: (run (learn d w) ws).2.1, body d w ++ (run (learn d w) ws).2.2)

/-- 16 bytes of tags. -/
def tb (ts : List Nat) (j : Nat) : Nat := ts.getD (4 * j) 0 + ts.getD (4 * j + 1) 0 * 4 + ts.getD (4 * j + 2) 0 * 16 + ts.getD (4 * j + 3) 0 * 64
def pk (ts : List Nat) : List UInt8 := (List.range 16).map fun j => UInt8.ofNat (tb ts j)

def d0 : List Nat := List.replicate 16 0
def words (p : List UInt8) : List Nat := (List.range 64).map fun i => word (p.drop (4 * i))
def comp (p : List UInt8) : List UInt8 :=
  if 17 + (run d0 (words p)).2.2.length > 256 then 0 :: p else 1 :: (pk (run d0 (words p)).2.1 ++ (run d0 (words p)).2.2)

theorem run_snoc : ∀ (ws : List Nat) (d : List Nat) (w : Nat), run d (ws ++ [w]) = (learn (run d ws).1 w, (run d ws).2.1 ++ [tag (run d ws).1 w], (run d ws).2.2 ++ body (run d ws).1 w)
  | [], d, w => by simp [run]
  | x :: ws, d, w => by
    simp only [List.cons_append, run, run_snoc ws]
    simp
theorem run_tags_length : ∀ (ws d : List Nat), (run d ws).2.1.length = ws.length
  | [], d => rfl
  | w :: ws, d => by simp [run, run_tags_length ws]
theorem learn_length (d : List Nat) (w : Nat) : (learn d w).length = d.length := by unfold learn; split <;> simp
theorem run_dict_length : ∀ (ws d : List Nat), (run d ws).1.length = d.length
  | [], d => rfl
  | w :: ws, d => by simp [run, run_dict_length ws, learn_length]
theorem tag_lt (d : List Nat) (w : Nat) : tag d w < 4 := by unfold tag; split; omega; split; omega; split <;> omega
theorem run_tags_lt : ∀ (ws d : List Nat), ∀ t ∈ (run d ws).2.1, t < 4
  | [], d, t, h => by simp [run] at h
  | w :: ws, d, t, h => by
    simp only [run, List.mem_cons] at h
    rcases h with rfl | h
    · exact tag_lt d w
    · exact run_tags_lt ws _ t h
theorem slot_lt (w : Nat) : slot w < 16 := Nat.mod_lt _ (by omega)
theorem pk_length (ts : List Nat) : (pk ts).length = 16 := by simp [pk]

theorem word_lt (l : List UInt8) : word l < 4294967296 := by
  unfold word
  have h0 := (l.getD 0 0).toNat_lt; have h1 := (l.getD 1 0).toNat_lt; have h2 := (l.getD 2 0).toNat_lt; have h3 := (l.getD 3 0).toNat_lt
  omega
theorem body_le (d : List Nat) (w : Nat) : (body d w).length ≤ 4 := by
  unfold body b4
  split
  · simp
  split
  · simp
  split <;> simp
theorem run_body_le : ∀ (ws d : List Nat), (run d ws).2.2.length ≤ 4 * ws.length
  | [], d => by simp [run]
  | w :: ws, d => by
    simp only [run, List.length_append, List.length_cons]
    have := run_body_le ws (learn d w)
    have := body_le d w
    omega

/-- All dictionary words are words. -/
def Fine (d : List Nat) : Prop := d.length = 16 ∧ ∀ x ∈ d, x < 4294967296
theorem fine_d0 : Fine d0 := ⟨by simp [d0], fun x hx => by simp [d0] at hx; omega⟩
theorem fine_learn {d : List Nat} {w : Nat} (h : Fine d) (hw : w < 4294967296) : Fine (learn d w) := by
  refine ⟨by rw [learn_length]; exact h.1, ?_⟩
  unfold learn
  split
  · exact h.2
  · intro x hx
    rcases List.mem_or_eq_of_mem_set hx with h' | rfl
    · exact h.2 x h'
    · exact hw
theorem fine_run : ∀ (ws d : List Nat), Fine d → (∀ w ∈ ws, w < 4294967296) → Fine (run d ws).1
  | [], d, h, _ => h
  | w :: ws, d, h, hw => by
    simp only [run]
    exact fine_run ws _ (fine_learn h (hw w (by simp))) (fun x hx => hw x (by simp [hx]))
theorem words_lt (p : List UInt8) : ∀ w ∈ words p, w < 4294967296 := by
  intro w hw
  simp only [words, List.mem_map] at hw
  obtain ⟨i, _, rfl⟩ := hw
  exact word_lt _
theorem words_length (p : List UInt8) : (words p).length = 64 := by simp [words]

theorem comp_length {p : List UInt8} (h : p.length = 256) : 17 ≤ (comp p).length ∧ (comp p).length ≤ 257 := by
  unfold comp
  split
  · simp [h]
  · simp [pk_length]; omega
theorem comp_ne {p : List UInt8} : comp p ≠ [] := by unfold comp; split <;> simp

/- One byte of tags more. -/
theorem getD_snoc (ts : List Nat) (t i : Nat) : (ts ++ [t]).getD i 0 = if i = ts.length then t else ts.getD i 0 := by
  simp only [List.getD_eq_getElem?_getD]
  by_cases h : i < ts.length
  · rw [List.getElem?_append_left h, if_neg (by omega)]
  · by_cases h2 : i = ts.length
    · subst h2; simp
    · rw [if_neg h2, List.getElem?_eq_none (by simp; omega), List.getElem?_eq_none (by omega)]
theorem getD_ge (ts : List Nat) {i : Nat} (h : ts.length ≤ i) : ts.getD i 0 = 0 := by
  simp [List.getD_eq_getElem?_getD, List.getElem?_eq_none h]
theorem getD_lt {ts : List Nat} (h : ∀ t ∈ ts, t < 4) (i : Nat) : ts.getD i 0 < 4 := by
  rw [List.getD_eq_getElem?_getD]
  cases hg : ts[i]? with
  | none => simp
  | some x => simpa using h x (List.mem_of_getElem? hg)

theorem tb_snoc_ne (ts : List Nat) (t j : Nat) (h : j ≠ ts.length / 4) : tb (ts ++ [t]) j = tb ts j := by
  unfold tb
  simp only [getD_snoc]
  rw [if_neg (by omega), if_neg (by omega), if_neg (by omega), if_neg (by omega)]
theorem tb_snoc_eq (ts : List Nat) (t : Nat) : tb (ts ++ [t]) (ts.length / 4) = tb ts (ts.length / 4) + t * 4 ^ (ts.length % 4) := by
  unfold tb
  simp only [getD_snoc]
  have hm : ts.length % 4 < 4 := Nat.mod_lt _ (by omega)
  have hd := Nat.div_add_mod ts.length 4
  generalize ts.length / 4 = q at *
  generalize hr : ts.length % 4 = r at *
  have z : ∀ i, ts.length ≤ i → ts.getD i 0 = 0 := fun i h => getD_ge ts h
  rcases (show r = 0 ∨ r = 1 ∨ r = 2 ∨ r = 3 by omega) with rfl | rfl | rfl | rfl
  · rw [if_pos (by omega), if_neg (by omega), if_neg (by omega), if_neg (by omega), z (4 * q) (by omega)]; omega
  · rw [if_neg (by omega), if_pos (by omega), if_neg (by omega), if_neg (by omega), z (4 * q + 1) (by omega)]; omega
  · rw [if_neg (by omega), if_neg (by omega), if_pos (by omega), if_neg (by omega), z (4 * q + 2) (by omega)]; omega
  · rw [if_neg (by omega), if_neg (by omega), if_neg (by omega), if_pos (by omega), z (4 * q + 3) (by omega)]; omega
theorem tb_low {ts : List Nat} (h : ∀ t ∈ ts, t < 4) : tb ts (ts.length / 4) < 4 ^ (ts.length % 4) := by
  unfold tb
  have hm : ts.length % 4 < 4 := Nat.mod_lt _ (by omega)
  have hd := Nat.div_add_mod ts.length 4
  have a := getD_lt h
  generalize ts.length / 4 = q at *
  generalize hr : ts.length % 4 = r at *
  have z : ∀ i, ts.length ≤ i → ts.getD i 0 = 0 := fun i h => getD_ge ts h
  have a0 := a (4 * q); have a1 := a (4 * q + 1); have a2 := a (4 * q + 2)
  rcases (show r = 0 ∨ r = 1 ∨ r = 2 ∨ r = 3 by omega) with rfl | rfl | rfl | rfl
  · rw [z (4 * q) (by omega), z (4 * q + 1) (by omega), z (4 * q + 2) (by omega), z (4 * q + 3) (by omega)]; omega
  · rw [z (4 * q + 1) (by omega), z (4 * q + 2) (by omega), z (4 * q + 3) (by omega)]; omega
  · rw [z (4 * q + 2) (by omega), z (4 * q + 3) (by omega)]; omega
  · rw [z (4 * q + 3) (by omega)]; omega
theorem tb_lt {ts : List Nat} (h : ∀ t ∈ ts, t < 4) (j : Nat) : tb ts j < 256 := by
  unfold tb
  have a := getD_lt h
  have a0 := a (4 * j); have a1 := a (4 * j + 1); have a2 := a (4 * j + 2); have a3 := a (4 * j + 3)
  omega
theorem pk_snoc {ts : List Nat} {t : Nat} (hl : ts.length < 64) : pk (ts ++ [t]) = (pk ts).set (ts.length / 4) (UInt8.ofNat (tb ts (ts.length / 4) + t * 4 ^ (ts.length % 4))) := by
  apply List.ext_getElem
  · simp [pk]
  · intro j h1 h2
    simp only [pk, List.length_map, List.length_range] at h1
    rw [List.getElem_set]
    split
    · rename_i h; subst h; simp [pk, tb_snoc_eq]
    · rename_i h; simp [pk, tb_snoc_ne ts t j (Ne.symm h)]
theorem pk_nil : pk [] = List.replicate 16 0 := by decide +kernel

/- The way back. -/
def tagAt (tg : List UInt8) (i : Nat) : Nat := (tg.getD (i / 4) 0).toNat / 4 ^ (i % 4) % 4
def size (t : Nat) : Nat := if t = 1 then 1 else if t = 2 then 3 else if t = 3 then 4 else 0
/-- The word with a tag at the beginning. -/
def dec (d : List Nat) (t : Nat) (r : List UInt8) : Option Nat :=
  if r.length < size t then none
  else if t = 0 then some 0
  else if t = 3 then some (word r)
  else if (r.getD 0 0).toNat ≥ 16 then none
  else if t = 2 then some (d.getD (r.getD 0 0).toNat 0 / 65536 * 65536 + (r.getD 1 0).toNat + (r.getD 2 0).toNat * 256)
  else some (d.getD (r.getD 0 0).toNat 0)
/-- n words from the i-th on. -/
def unp (tg : List UInt8) : Nat → Nat → List Nat → List UInt8 → Option (List Nat × List UInt8)
  | 0, _, _, r => some ([], r)
  | n + 1, i, d, r => match dec d (tagAt tg i) r with
    | none => none
    | some w => match unp tg n (i + 1) (learn d w) (r.drop (size (tagAt tg i))) with
      | none => none
      | some (ws, r') => some (w :: ws, r')

def flat (ws : List Nat) : List UInt8 := ws.flatMap b4
/-- What the program expands, and what the reference does. -/
def expP (s : List UInt8) : Option (List UInt8) :=
  if s.length = 257 ∧ s.getD 0 0 = 0 then some (s.drop 1)
  else if s.length < 17 ∨ s.length > 256 ∨ s.getD 0 0 ≠ 1 then none
  else match unp ((s.take 17).drop 1) 64 0 d0 (s.drop 17) with
    | some (ws, []) => some (flat ws)
    | _ => none
def expR (s : List UInt8) : Option (List UInt8) :=
  if s.length = 257 ∧ s.getD 0 0 = 0 then some (s.drop 1)
  else if s.length < 17 ∨ s.getD 0 0 ≠ 1 then none
  else match unp ((s.take 17).drop 1) 64 0 d0 (s.drop 17) with
    | some (ws, _) => some (flat ws)
    | none => none
def back (e : Option (List UInt8)) (s : List UInt8) : List UInt8 × Int :=
  match e with
  | some p => if comp p = s then (p, 0) else ([], 3)
  | none => ([], 3)

theorem b4_get (w : Nat) (hw : w < 4294967296) (r : List UInt8) : word (b4 w ++ r) = w := by
  simp only [word, b4, List.cons_append, List.getD_cons_zero, List.getD_cons_succ, UInt8.toNat_ofNat']
  omega
theorem b4_length (w : Nat) : (b4 w).length = 4 := rfl
theorem ofNat_getD0 (x : UInt8) (r : List UInt8) : (x :: r).getD 0 0 = x := rfl

theorem size_body (d : List Nat) (w : Nat) : (body d w).length = size (tag d w) := by
  unfold body size
  have := tag_lt d w
  split
  · simp
  split
  · simp
  split
  · rfl
  · rfl

theorem dec_body {d : List Nat} {w : Nat} (hw : w < 4294967296) (r : List UInt8) : dec d (tag d w) (body d w ++ r) = some w := by
  have hsz := size_body d w
  unfold dec
  rw [if_neg (by rw [List.length_append]; omega)]
  have hs := slot_lt w
  have hsu : (UInt8.ofNat (slot w)).toNat = slot w := by rw [UInt8.toNat_ofNat']; omega
  by_cases h0 : tag d w = 0
  · rw [if_pos h0]
    unfold tag at h0
    split at h0
    · rename_i h; rw [h]
    · split at h0
      · cases h0
      · split at h0 <;> cases h0
  rw [if_neg h0]
  by_cases h3 : tag d w = 3
  · rw [if_pos h3]
    unfold body
    rw [if_neg (by omega), if_neg (by omega), if_pos h3, b4_get w hw]
  rw [if_neg h3]
  have ht : tag d w = 1 ∨ tag d w = 2 := by have := tag_lt d w; omega
  rcases ht with h1 | h2
  · have hb : body d w = [UInt8.ofNat (slot w)] := by unfold body; rw [if_pos h1]
    rw [hb]
    simp only [List.cons_append, List.nil_append, List.getD_cons_zero, hsu]
    rw [if_neg (by omega), if_neg (by omega)]
    unfold tag at h1
    split at h1
    · cases h1
    · split at h1
      · rename_i h; rw [← h]
      · split at h1 <;> cases h1
  · have hb : body d w = [UInt8.ofNat (slot w), UInt8.ofNat w, UInt8.ofNat (w / 256)] := by unfold body; rw [if_neg (by omega), if_pos h2]
    rw [hb]
    simp only [List.cons_append, List.nil_append, List.getD_cons_zero, List.getD_cons_succ, hsu, UInt8.toNat_ofNat']
    rw [if_neg (by omega), if_pos h2]
    unfold tag at h2
    split at h2
    · cases h2
    · split at h2
      · cases h2
      · split at h2
        · rename_i h
          rw [← h]
          congr 1
          omega
        · cases h2

theorem unp_run (tg : List UInt8) : ∀ (ws : List Nat) (i : Nat) (d : List Nat) (r : List UInt8), (∀ w ∈ ws, w < 4294967296) → (∀ k (h : k < ws.length), tagAt tg (i + k) = (run d ws).2.1[k]'(by rw [run_tags_length]; exact h)) →
    unp tg ws.length i d ((run d ws).2.2 ++ r) = some (ws, r)
  | [], i, d, r, _, _ => by simp [unp, run]
  | w :: ws, i, d, r, hw, ht => by
    have h0 := ht 0 (by simp)
    simp only [Nat.add_zero, run, List.getElem_cons_zero] at h0
    have ih := unp_run tg ws (i + 1) (learn d w) r (fun x hx => hw x (by simp [hx])) (fun k hk => by
      have := ht (k + 1) (by simp; omega)
      simp only [run, List.getElem_cons_succ] at this
      rw [← this]
      congr 1
      omega)
    simp only [List.length_cons, unp, h0, run, List.append_assoc]
    rw [dec_body (hw w (by simp))]
    dsimp only
    rw [← size_body, List.drop_left, ih]

theorem tb_digit (ts : List Nat) (h : ∀ t ∈ ts, t < 4) (i : Nat) : tb ts (i / 4) / 4 ^ (i % 4) % 4 = ts.getD i 0 := by
  unfold tb
  have a := getD_lt h
  have hm : i % 4 < 4 := Nat.mod_lt _ (by omega)
  have hd := Nat.div_add_mod i 4
  generalize i / 4 = q at *
  have a0 := a (4 * q); have a1 := a (4 * q + 1); have a2 := a (4 * q + 2); have a3 := a (4 * q + 3)
  rcases (show i % 4 = 0 ∨ i % 4 = 1 ∨ i % 4 = 2 ∨ i % 4 = 3 by omega) with hr | hr | hr | hr
  · rw [hr, show i = 4 * q by omega]; omega
  · rw [hr, show i = 4 * q + 1 by omega]; omega
  · rw [hr, show i = 4 * q + 2 by omega]; omega
  · rw [hr, show i = 4 * q + 3 by omega]; omega
theorem tagAt_pk {ts : List Nat} (h : ∀ t ∈ ts, t < 4) {i : Nat} (hi : i < 64) : tagAt (pk ts) i = ts.getD i 0 := by
  unfold tagAt
  have : (pk ts).getD (i / 4) 0 = UInt8.ofNat (tb ts (i / 4)) := by
    rw [List.getD_eq_getElem?_getD, List.getElem?_eq_getElem (by rw [pk_length]; omega)]
    simp [pk]
  rw [this, UInt8.toNat_ofNat', Nat.mod_eq_of_lt (tb_lt h _), tb_digit ts h]

theorem b4_word (l : List UInt8) (h : 4 ≤ l.length) : b4 (word l) = l.take 4 := by
  match l, h with
  | a :: b :: c :: d :: r, _ =>
    have h0 := a.toNat_lt; have h1 := b.toNat_lt; have h2 := c.toNat_lt; have h3 := d.toNat_lt
    simp only [b4, word, List.getD_cons_zero, List.getD_cons_succ, List.take_succ_cons, List.take_zero, List.cons.injEq, and_true]
    refine ⟨?_, ?_, ?_, ?_⟩ <;> (apply UInt8.toNat_inj.mp; rw [UInt8.toNat_ofNat']; omega)
theorem flat_words_aux (p : List UInt8) : ∀ n, 4 * n ≤ p.length → ((List.range n).map fun i => word (p.drop (4 * i))).flatMap b4 = p.take (4 * n)
  | 0, _ => by simp
  | n + 1, h => by
    rw [List.range_succ, List.map_append, List.flatMap_append, flat_words_aux p n (by omega)]
    simp only [List.map_cons, List.map_nil, List.flatMap_cons, List.flatMap_nil, List.append_nil]
    rw [b4_word _ (by rw [List.length_drop]; omega), show 4 * (n + 1) = 4 * n + 4 by omega, List.take_add]
theorem flat_words {p : List UInt8} (h : p.length = 256) : flat (words p) = p := by
  unfold flat words
  rw [flat_words_aux p 64 (by omega), List.take_of_length_le (by omega)]
theorem word_b4 (w : Nat) (hw : w < 4294967296) (r : List UInt8) : word (b4 w ++ r) = w := b4_get w hw r

/-- What comes back from a packed form. -/
theorem unp_packed (p : List UInt8) : unp (pk (run d0 (words p)).2.1) 64 0 d0 (run d0 (words p)).2.2 = some (words p, []) := by
  have hl := words_length p
  have := unp_run (pk (run d0 (words p)).2.1) (words p) 0 d0 [] (words_lt p) (fun k hk => by
    rw [Nat.zero_add, tagAt_pk (run_tags_lt _ _) (by omega), List.getD_eq_getElem?_getD, List.getElem?_eq_getElem (by rw [run_tags_length]; exact hk)]
    rfl)
  rwa [hl, List.append_nil] at this

theorem parts_packed (ts : List Nat) (bd : List UInt8) : ((1 :: (pk ts ++ bd)).take 17).drop 1 = pk ts ∧ (1 :: (pk ts ++ bd)).drop 17 = bd := by
  have h := pk_length ts
  constructor
  · rw [List.take_succ_cons, List.drop_succ_cons, List.drop_zero, List.take_left' h]
  · rw [List.drop_succ_cons, List.drop_left' h]

theorem expP_comp {p : List UInt8} (h : p.length = 256) : expP (comp p) = some p := by
  unfold comp
  split
  · unfold expP
    rw [if_pos ⟨by simp [h], rfl⟩]
    rfl
  · rename_i hle
    unfold expP
    have hlen : (1 :: (pk (run d0 (words p)).2.1 ++ (run d0 (words p)).2.2)).length = 17 + (run d0 (words p)).2.2.length := by simp [pk_length]; omega
    rw [if_neg (by rw [hlen]; omega), if_neg (by rw [hlen]; simp; omega), (parts_packed _ _).1, (parts_packed _ _).2, unp_packed]
    dsimp only
    rw [flat_words h]
theorem back_comp {p : List UInt8} (h : p.length = 256) : back (expP (comp p)) (comp p) = (p, 0) := by
  rw [expP_comp h]
  unfold back
  dsimp only
  rw [if_pos rfl]

theorem unp_length (tg : List UInt8) : ∀ (n i : Nat) (d : List Nat) (r : List UInt8) (ws : List Nat) (r' : List UInt8), unp tg n i d r = some (ws, r') → ws.length = n
  | 0, i, d, r, ws, r', h => by simp only [unp, Option.some.injEq, Prod.mk.injEq] at h; rw [← h.1]; rfl
  | n + 1, i, d, r, ws, r', h => by
    simp only [unp] at h
    split at h
    · cases h
    · split at h
      · cases h
      · rename_i w _ _ ws' r'' h'
        simp only [Option.some.injEq, Prod.mk.injEq] at h
        rw [← h.1, List.length_cons, unp_length tg n _ _ _ _ _ h']
theorem flat_length (ws : List Nat) : (flat ws).length = 4 * ws.length := by
  unfold flat
  induction ws with
  | nil => rfl
  | cons w ws ih => rw [List.flatMap_cons, List.length_append, ih, b4_length, List.length_cons]; omega

/-- The reference's answer is the program's. -/
theorem back_agrees (s : List UInt8) : back (expR s) s = back (expP s) s := by
  unfold expR expP
  by_cases h1 : s.length = 257 ∧ s.getD 0 0 = 0
  · rw [if_pos h1, if_pos h1]
  rw [if_neg h1, if_neg h1]
  by_cases h2 : s.length < 17 ∨ s.getD 0 0 ≠ 1
  · rw [if_pos h2, if_pos (h2.elim Or.inl (fun h => Or.inr (Or.inr h)))]
  rw [if_neg h2]
  have h17 : 17 ≤ s.length := by omega
  have hs1 : s.getD 0 0 = 1 := by
    rcases Classical.em (s.getD 0 0 = 1) with h | h
    · exact h
    · exact absurd (Or.inr h) h2
  cases hu : unp ((s.take 17).drop 1) 64 0 d0 (s.drop 17) with
  | none =>
    dsimp only
    split <;> rfl
  | some x =>
    obtain ⟨ws, r⟩ := x
    dsimp only
    have hws := unp_length _ _ _ _ _ _ _ hu
    have hfl : (flat ws).length = 256 := by rw [flat_length, hws]
    by_cases hc : comp (flat ws) = s
    · -- then the string is a packed form, and nothing is left over
      have hle : ¬ 17 + (run d0 (words (flat ws))).2.2.length > 256 := by
        intro hgt
        unfold comp at hc
        rw [if_pos hgt] at hc
        rw [← hc] at hs1
        simp at hs1
      have hcc := hc
      unfold comp at hcc
      rw [if_neg hle] at hcc
      have hp := parts_packed (run d0 (words (flat ws))).2.1 (run d0 (words (flat ws))).2.2
      rw [hcc] at hp
      rw [hp.1, hp.2, unp_packed] at hu
      simp only [Option.some.injEq, Prod.mk.injEq] at hu
      have hr : r = [] := hu.2.symm
      subst hr
      have hlen : s.length ≤ 256 := by rw [← hcc]; simp [pk_length]; omega
      rw [if_neg (by rw [hs1]; simp; omega)]
    · have hb : back (some (flat ws)) s = ([], 3) := by unfold back; dsimp only; rw [if_neg hc]
      rw [hb]
      split
      · rfl
      · split
        · rename_i ws' h'
          simp only [Option.some.injEq, Prod.mk.injEq] at h'
          rw [← h'.1, hb]
        · rfl
end Go.Proofs.Ytpgekajgbkbpkaa.Pz
