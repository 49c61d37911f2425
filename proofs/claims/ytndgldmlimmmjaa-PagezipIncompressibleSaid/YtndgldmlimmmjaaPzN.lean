/-
  Page compression: the lengths of two kinds of pages, in plain. No program in sight.
-/
import Derived.Test.YtndgldmlimmmjaaPzB
namespace Go.Proofs.Ytndgldmlimmmjaa.Pz
open Go Go.Ev

theorem flat_cons (w : Nat) (ws : List Nat) : flat (w :: ws) = b4 w ++ flat ws := by simp [flat]
theorem flat_drop : ∀ (ws : List Nat) (i : Nat), (flat ws).drop (4 * i) = flat (ws.drop i)
  | ws, 0 => by simp
  | [], i + 1 => by simp [flat]
  | w :: ws, i + 1 => by
    rw [flat_cons, show 4 * (i + 1) = 4 + 4 * i by omega, ← List.drop_drop, List.drop_left' (b4_length w), flat_drop ws i]
    rfl
theorem words_flat {ws : List Nat} (hl : ws.length = 64) (hw : ∀ w ∈ ws, w < 4294967296) : words (flat ws) = ws := by
  apply List.ext_getElem
  · rw [words_length, hl]
  · intro i h1 h2
    simp only [words, List.getElem_map, List.getElem_range]
    rw [flat_drop, List.drop_eq_getElem_cons h2, flat_cons, word_b4 _ (hw _ (List.getElem_mem h2))]

/-- The first j bytes of word k written anew. -/
def setb (l : List UInt8) (k w : Nat) : Nat → List UInt8
  | 0 => l
  | j + 1 => (setb l k w j).set (4 * k + j) (UInt8.ofNat (w / 256 ^ j))
theorem setb_length (l : List UInt8) (k w : Nat) : ∀ j, (setb l k w j).length = l.length
  | 0 => rfl
  | j + 1 => by simp [setb, setb_length l k w j]
theorem setb_flat (w : Nat) : ∀ (ws : List Nat) (k : Nat), setb (flat ws) k w 4 = flat (ws.set k w)
  | [], k => by simp [setb, flat]
  | x :: ws, 0 => by
    rw [List.set_cons_zero, flat_cons, flat_cons]
    simp [setb, b4]
  | x :: ws, k + 1 => by
    rw [List.set_cons_succ, flat_cons, flat_cons, ← setb_flat w ws k]
    simp only [setb]
    have h : ∀ (l : List UInt8) (j : Nat) (v : UInt8), (b4 x ++ l).set (4 * (k + 1) + j) v = b4 x ++ l.set (4 * k + j) v := by
      intro l j v
      rw [List.set_append_right _ _ (by rw [b4_length]; omega), b4_length]
      congr 2
      omega
    rw [h, h, h, h]

/- One word at some places. -/
def pos : Nat → List Bool
  | 0 => List.replicate 64 false
  | m + 1 => (pos m).set (5 * m % 64) true
def sel (w : Nat) (b : Bool) : Nat := if b then w else 0
def wsAt (w m : Nat) : List Nat := (pos m).map (sel w)
theorem pos_count : ∀ m, m < 65 → (pos m).count true = m := by decide +kernel
theorem pos_length : ∀ m, (pos m).length = 64
  | 0 => by simp [pos]
  | m + 1 => by simp [pos, pos_length m]
theorem wsAt_zero (w : Nat) : wsAt w 0 = List.replicate 64 0 := by simp [wsAt, pos, sel]
theorem wsAt_succ (w m : Nat) : wsAt w (m + 1) = (wsAt w m).set (5 * m % 64) w := by simp [wsAt, pos, List.map_set, sel]
theorem wsAt_length (w m : Nat) : (wsAt w m).length = 64 := by simp [wsAt, pos_length]
theorem wsAt_lt {w : Nat} (hw : w < 4294967296) (m : Nat) : ∀ x ∈ wsAt w m, x < 4294967296 := by
  intro x hx
  simp only [wsAt, List.mem_map, sel] at hx
  obtain ⟨b, _, rfl⟩ := hx
  split <;> omega
theorem flat_zero : flat (List.replicate 64 0) = List.replicate 256 0 := by decide +kernel

theorem body_zero (d : List Nat) : body d 0 = [] := by simp [body, tag]
theorem getD_set_self' {d : List Nat} {i v : Nat} (h : i < d.length) : (d.set i v).getD i 0 = v := by
  rw [List.getD_eq_getElem?_getD, List.getElem?_set_self h]; rfl

theorem run_known {w : Nat} (h0 : w ≠ 0) : ∀ (bs : List Bool) (d : List Nat), d.length = 16 → d.getD (slot w) 0 = w → (run d (bs.map (sel w))).2.2.length = bs.count true
  | [], d, _, _ => rfl
  | false :: bs, d, hl, hd => by
    simp only [List.map_cons, sel, run, Bool.false_eq_true, if_false]
    rw [body_zero, show learn d 0 = d from rfl]
    have := run_known h0 bs d hl hd
    simpa using this
  | true :: bs, d, hl, hd => by
    simp only [List.map_cons, sel, run, if_true]
    have ht : tag d w = 1 := by unfold tag; rw [if_neg h0, hd, if_pos rfl]
    have hlr : learn d w = d.set (slot w) w := by unfold learn; rw [if_neg h0]
    have := run_known h0 bs (learn d w) (by rw [learn_length, hl]) (by rw [hlr]; exact getD_set_self' (by rw [hl]; exact slot_lt w))
    rw [List.length_append, size_body, ht, this]
    simp [size]
    omega
theorem run_fresh {w : Nat} (h0 : w ≠ 0) : ∀ (bs : List Bool) (d : List Nat), d.length = 16 → d.getD (slot w) 0 = 0 →
    (run d (bs.map (sel w))).2.2.length = if bs.count true = 0 then 0 else (if w / 65536 = 0 then 3 else 4) + (bs.count true - 1)
  | [], d, _, _ => rfl
  | false :: bs, d, hl, hd => by
    simp only [List.map_cons, sel, run, Bool.false_eq_true, if_false]
    rw [body_zero, show learn d 0 = d from rfl]
    have := run_fresh h0 bs d hl hd
    simpa using this
  | true :: bs, d, hl, hd => by
    simp only [List.map_cons, sel, run, if_true]
    have hlr : learn d w = d.set (slot w) w := by unfold learn; rw [if_neg h0]
    have := run_known h0 bs (learn d w) (by rw [learn_length, hl]) (by rw [hlr]; exact getD_set_self' (by rw [hl]; exact slot_lt w))
    rw [List.length_append, size_body, this]
    have ht : size (tag d w) = if w / 65536 = 0 then 3 else 4 := by
      unfold tag
      rw [if_neg h0, hd, if_neg h0, Nat.zero_div]
      split <;> rfl
    rw [ht]
    simp
theorem d0_getD (i : Nat) : d0.getD i 0 = 0 := by
  rw [List.getD_eq_getElem?_getD, d0, List.getElem?_replicate]
  split <;> rfl
theorem comp_repeated {w m : Nat} (hw : w < 4294967296) (h0 : w ≠ 0) (hm : m ≤ 64) :
    (comp (flat (wsAt w m))).length = 17 + if m = 0 then 0 else (if w / 65536 = 0 then 3 else 4) + (m - 1) := by
  have h := run_fresh h0 (pos m) d0 (by simp [d0]) (d0_getD _)
  rw [pos_count m (by omega)] at h
  have hws := words_flat (wsAt_length w m) (wsAt_lt hw m)
  unfold comp
  rw [hws]
  unfold wsAt
  rw [h]
  have hle : (if m = 0 then 0 else (if w / 65536 = 0 then 3 else 4) + (m - 1)) ≤ 67 := by split <;> (try split) <;> omega
  rw [if_neg (by omega)]
  simp only [List.length_cons, List.length_append, pk_length, h]
  omega

/- Upper halves that grow. -/
theorem run_inc : ∀ (ws d : List Nat), d.length = 16 → (∀ x ∈ d, ∀ y ∈ ws, x / 65536 < y / 65536) → ws.Pairwise (fun a b => a / 65536 < b / 65536) → (run d ws).2.2.length = 4 * ws.length
  | [], d, _, _, _ => rfl
  | w :: ws, d, hl, hd, hp => by
    simp only [run, List.length_append, List.length_cons]
    have hm : d.getD (slot w) 0 ∈ d := by
      have := slot_lt w
      rw [List.getD_eq_getElem?_getD, List.getElem?_eq_getElem (by omega)]
      exact List.getElem_mem _
    have hlt := hd _ hm w (.head _)
    have ht : tag d w = 3 := by
      unfold tag
      rw [if_neg (by intro h; subst h; simp at hlt), if_neg (by intro h; rw [← h] at hlt; omega), if_neg (by omega)]
    rw [size_body, ht]
    have hw0 : w ≠ 0 := by intro h; subst h; simp at hlt
    have hp' := List.pairwise_cons.1 hp
    rw [run_inc ws (learn d w) (by rw [learn_length, hl]) ?_ hp'.2]
    · simp [size]; omega
    · intro x hx y hy
      unfold learn at hx
      rw [if_neg hw0] at hx
      rcases List.mem_or_eq_of_mem_set hx with h | rfl
      · exact hd x h y (.tail _ hy)
      · exact hp'.1 y hy
theorem comp_inc {ws : List Nat} (hl : ws.length = 64) (hw : ∀ w ∈ ws, w < 4294967296 ∧ 0 < w / 65536) (hp : ws.Pairwise (fun a b => a / 65536 < b / 65536)) : comp (flat ws) = 0 :: flat ws := by
  have h := run_inc ws d0 (by simp [d0]) (fun x hx y hy => by
    simp only [d0, List.mem_replicate] at hx
    rw [hx.2]
    simpa using (hw y hy).2) hp
  unfold comp
  rw [words_flat hl (fun w h => (hw w h).1), h, hl, if_pos (by omega)]

/-- The i-th of the words. -/
def inc (s lo i : Nat) : Nat := (i + 1 + s) * 65536 + lo + i
theorem inc_lt {s lo i : Nat} (hs : s < 60000) (hlo : lo < 65536) (hi : i < 64) : inc s lo i < 4294967296 := by unfold inc; omega
theorem inc_hi (s lo i : Nat) : inc s lo i / 65536 = i + 1 + s + (lo + i) / 65536 := by unfold inc; omega
def incs (s lo n : Nat) : List Nat := (List.range 64).map fun i => if i < n then inc s lo i else 0
theorem incs_length (s lo n : Nat) : (incs s lo n).length = 64 := by simp [incs]
theorem incs_zero (s lo : Nat) : incs s lo 0 = List.replicate 64 0 := by
  unfold incs
  simp only [Nat.not_lt_zero, if_false]
  decide +kernel
theorem incs_succ (s lo n : Nat) : incs s lo (n + 1) = (incs s lo n).set n (inc s lo n) := by
  apply List.ext_getElem
  · simp [incs]
  · intro i h1 h2
    rw [List.getElem_set]
    simp only [incs, List.getElem_map, List.getElem_range]
    by_cases h : n = i
    · subst h; rw [if_pos (by omega), if_pos rfl]
    · rw [if_neg h]
      by_cases h' : i < n
      · rw [if_pos (by omega), if_pos h']
      · rw [if_neg (by omega), if_neg h']
theorem incs_full (s lo : Nat) : incs s lo 64 = (List.range 64).map (inc s lo) := by
  apply List.map_congr_left
  intro i hi
  rw [if_pos (by simpa using hi)]
theorem comp_incs {s lo : Nat} (hs : s < 60000) (hlo : lo < 65536) : comp (flat (incs s lo 64)) = 0 :: flat (incs s lo 64) := by
  refine comp_inc (incs_length _ _ _) (fun w hw => ?_) ?_
  · rw [incs_full] at hw
    simp only [List.mem_map, List.mem_range] at hw
    obtain ⟨i, hi, rfl⟩ := hw
    exact ⟨inc_lt hs hlo hi, by rw [inc_hi]; omega⟩
  · rw [incs_full, List.pairwise_map]
    refine List.Pairwise.imp ?_ List.pairwise_lt_range
    intro a b hab
    rw [inc_hi, inc_hi]
    omega
end Go.Proofs.Ytndgldmlimmmjaa.Pz
