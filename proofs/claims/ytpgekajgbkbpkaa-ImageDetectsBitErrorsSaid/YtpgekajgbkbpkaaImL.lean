/-
  An image in plain terms: what is encoded is decoded. No program; no condition beyond those stated.
-/
import Derived.Test.YtpgekajgbkbpkaaImK
namespace Go.Proofs.Ytpgekajgbkbpkaa.Im
open Go Go.Ev Go.Proofs

theorem by_inj : ∀ {a b : List UInt8}, by_ a = by_ b → a = b
  | [], [], _ => rfl
  | x :: a, y :: b, h => by
    simp only [by_, List.map_cons, List.cons.injEq, Value.int.injEq, true_and] at h
    obtain ⟨h1, h2⟩ := h
    have : x = y := UInt8.toNat_inj.1 (by omega)
    rw [this, by_inj (a := a) (b := b) h2]
  | [], _ :: _, h => by simp [by_] at h
  | _ :: _, [], h => by simp [by_] at h
theorem hdrC_inj {g n s g' n' s' : Nat} {bd bd' : List UInt8} (h1 : bd.length = 32) (h2 : bd'.length = 32) (h : hdrC g bd n s = hdrC g' bd' n' s') : g = g' ∧ bd = bd' ∧ n = n' ∧ s = s' := by
  unfold hdrC at h
  simp only [List.cons.injEq, Value.int.injEq, true_and] at h
  obtain ⟨hg, h⟩ := h
  obtain ⟨hb, h⟩ := List.append_inj h (by rw [by_length, by_length, h1, h2])
  simp only [List.cons.injEq, Value.int.injEq, true_and, and_true] at h
  exact ⟨by omega, by_inj hb, by omega, by omega⟩
/-- The fields of a header, as Decode reads them. -/
theorem hdr_fields {g n s : Nat} {bd : List UInt8} (hb : bd.length = 32) (hg : g < 18446744073709551616) (hn : n < 4294967296) (hs : s < 4294967296) :
    num (sub (hdr g bd n s) 4 12) = g ∧ sub (hdr g bd n s) 12 44 = bd ∧ num (sub (hdr g bd n s) 44 48) = n ∧ num (sub (hdr g bd n s) 48 52) = s := by
  have h := decH_hdr hb hg hn hs
  have h2 := decH_ok (l := hdr g bd n s) (by rw [h])
  rw [h] at h2
  obtain ⟨a, b, c, d⟩ := hdrC_inj hb (by rw [sub_length (by rw [hdr_length hb]; omega)]) h2
  exact ⟨a.symm, b.symm, c.symm, d.symm⟩

theorem stepB_pgB {p : Pg} {r : List UInt8} {k : Nat} (h0 : 0 ≤ p.1) (h1 : p.1 ≤ 2147483647) (hd : p.2.length = 256) (hk : k < 512) : stepB (pgB p ++ r) k = some (p, r) := by
  have hcl := Pz.comp_length hd
  have e1 : pgB p ++ r = le p.1.toNat 4 ++ (le (Pz.comp p.2).length 2 ++ Pz.comp p.2 ++ r) := by simp [pgB]
  have e2 : pgB p ++ r = le p.1.toNat 4 ++ le (Pz.comp p.2).length 2 ++ (Pz.comp p.2 ++ r) := by simp [pgB]
  have t4 : (pgB p ++ r).take 4 = le p.1.toNat 4 := by rw [e1]; exact List.take_left' (le_length _ _)
  have t46 : sub (pgB p ++ r) 4 6 = le (Pz.comp p.2).length 2 := by rw [e2]; exact sub_mid (le_length _ _) (by rw [le_length])
  have d6 : (pgB p ++ r).drop 6 = Pz.comp p.2 ++ r := by rw [e2]; exact List.drop_left' (by rw [List.length_append, le_length, le_length])
  have n4 : num (le p.1.toNat 4) = p.1.toNat := num_le_of (by omega)
  have n2 : num (le (Pz.comp p.2).length 2) = (Pz.comp p.2).length := num_le_of (by omega)
  have hl : (pgB p ++ r).length = 6 + (Pz.comp p.2).length + r.length := by rw [e2]; simp only [List.length_append, le_length]; omega
  unfold stepB
  rw [if_neg (by omega), if_neg (by omega), t4, n4, if_neg (by omega), t46, n2, d6, if_neg (by rw [List.length_append]; omega), List.take_left, Pz.back_comp hd, if_neg (by simp), List.drop_left]
  rw [show ((p.1.toNat : Nat) : Int) = p.1 by omega]
theorem parse_body : ∀ (ps : List Pg) (acc : List Pg) (f : Nat), (∀ p ∈ ps, 0 ≤ p.1 ∧ p.1 ≤ 2147483647 ∧ p.2.length = 256) → (bodyOf ps).length ≤ f → acc.length + ps.length ≤ 512 → parse f (bodyOf ps) acc = some (acc ++ ps)
  | [], acc, f, _, _, _ => by rw [show bodyOf [] = [] from rfl, parse_nil, List.append_nil]
  | p :: ps, acc, f, h, hf, hl => by
    obtain ⟨h0, h1, hd⟩ := h p (.head _)
    have hb : bodyOf (p :: ps) = pgB p ++ bodyOf ps := by simp [bodyOf]
    have hpl : 6 ≤ (pgB p).length := by
      unfold pgB
      simp only [List.length_append, le_length]
      omega
    rw [hb, List.length_append] at hf
    rw [List.length_cons] at hl
    obtain ⟨f', rfl⟩ : ∃ f', f = f' + 1 := ⟨f - 1, by omega⟩
    rw [hb, parse_succ (by intro hc; have := congrArg List.length hc; rw [List.length_append, List.length_nil] at this; omega), stepB_pgB h0 h1 hd (by omega)]
    dsimp only
    rw [parse_body ps (acc ++ [p]) f' (fun q hq => h q (.tail _ hq)) (by omega) (by rw [List.length_append]; show acc.length + 1 + _ ≤ _; omega)]
    simp
theorem chunks_flat (l : List UInt8) : ∀ k, 64 * k ≤ l.length → (chunks k l).flatten = l.take (64 * k)
  | 0, _ => by simp [chunks]
  | k + 1, h => by
    rw [chunks_succ, List.flatten_append, chunks_flat l k (by omega), Nat.mul_succ, List.take_add]
    simp
theorem cuts_flat (l : List UInt8) : (cuts l).flatten = pad l := by
  unfold cuts
  have := pad_mod l
  rw [chunks_flat _ _ (by omega), List.take_of_length_le (by omega)]
theorem chunks_len (l : List UInt8) (k : Nat) (h : 64 * k ≤ l.length) : ∀ s ∈ chunks k l, s.length = 64 := by
  intro s hs
  simp only [chunks, List.mem_map, List.mem_range] at hs
  obtain ⟨j, hj, rfl⟩ := hs
  rw [List.length_take, List.length_drop]
  omega
theorem cuts_len (l : List UInt8) : ∀ s ∈ cuts l, s.length = 64 := by
  have := pad_mod l
  exact chunks_len _ _ (by omega)
theorem okP_mem {ps : List Pg} (h : OkP ps) : ps.length ≤ 512 ∧ ∀ p ∈ ps, 0 ≤ p.1 ∧ p.1 ≤ 2147483647 ∧ p.2.length = 256 := by
  obtain ⟨hv, hd⟩ := h
  unfold validP at hv
  simp only [Bool.and_eq_true, decide_eq_true_eq] at hv
  exact ⟨hv.1, fun p hp => ⟨(incr_mem hv.2 p hp).1, (incr_mem hv.2 p hp).2, hd p hp⟩⟩
theorem body_lt {ps : List Pg} (h : OkP ps) : (bodyOf ps).length ≤ 134656 := by
  have h1 := bodyOf_le h.2
  have h2 := (okP_mem h).1
  omega
theorem secs_len {g : Nat} {bd : List UInt8} (hb : bd.length = 32) (ps : List Pg) : ∀ s ∈ secs g bd ps, s.length = 64 := by
  intro s hs
  unfold secs at hs
  rcases List.mem_cons.1 hs with rfl | hs
  · exact hdr_length hb
  · exact cuts_len _ s hs
theorem cuts_count (l : List UInt8) : (cuts l).length = (l.length + padn l.length) / 64 := by unfold cuts; rw [chunks_length, pad_length]
/-- What was encoded is decoded, whatever sectors follow. -/
theorem decI_secs {g : Nat} {bd : List UInt8} {ps : List Pg} {more : List (List UInt8)} (hb : bd.length = 32) (hg : g < 18446744073709551616) (h : OkP ps) (hm : ∀ s ∈ more, s.length = 64) : decI (secs g bd ps ++ more) = .inr (bd, g, ps) := by
  have hbl := body_lt h
  have hcr := (crc (bodyOf ps)).isLt
  obtain ⟨f1, f2, f3, f4⟩ := hdr_fields (g := g) (n := (bodyOf ps).length) (s := (crc (bodyOf ps)).toNat) hb hg (by omega) (by omega)
  have hH := decH_hdr (g := g) (n := (bodyOf ps).length) (s := (crc (bodyOf ps)).toNat) hb hg (by omega) (by omega)
  have hall : ∀ s ∈ secs g bd ps ++ more, s.length = 64 := fun s hs => by
    rcases List.mem_append.1 hs with hs | hs
    · exact secs_len hb ps s hs
    · exact hm s hs
  have hfl : (cuts (bodyOf ps) ++ more).flatten.take (bodyOf ps).length = bodyOf ps := by
    rw [List.flatten_append, cuts_flat]
    unfold pad
    rw [List.append_assoc, List.take_left]
  have hcount := cuts_count (bodyOf ps)
  have hpm := pad_mod (bodyOf ps)
  rw [pad_length] at hpm
  unfold secs at hall ⊢
  rw [List.cons_append] at hall ⊢
  unfold decI
  dsimp only
  rw [if_neg (by simpa using hall), if_neg (by rw [hH]; simp), f1, f2, f3, f4, if_neg (by rw [List.length_append]; omega), hfl, if_neg (by simp)]
  rw [parse_body ps [] _ (okP_mem h).2 (Nat.le_refl _) (by have := (okP_mem h).1; simpa using this)]
  dsimp only [List.nil_append]
  rw [if_pos h.1]
theorem okP_nil : OkP [] := ⟨by decide, by simp⟩
end Go.Proofs.Ytpgekajgbkbpkaa.Im
