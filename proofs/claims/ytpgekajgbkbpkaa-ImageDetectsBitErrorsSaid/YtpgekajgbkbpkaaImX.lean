/-
  One changed byte is noticed, in plain terms. No program; no condition beyond those stated.
-/
import Derived.Test.YtpgekajgbkbpkaaImT
namespace Go.Proofs.Ytpgekajgbkbpkaa.Im
open Go Go.Ev Go.Proofs

theorem stp_zero {c : B} (h : stp c = 0#32) : c = 0#32 := by
  unfold stp at h
  cases hb : c.getLsbD 0 with
  | true =>
    rw [hb] at h
    have h31 := congrArg (fun x : B => x.getLsbD 31) h
    simp only [BitVec.getLsbD_xor, BitVec.getLsbD_ushiftRight] at h31
    rw [BitVec.getLsbD_of_ge c (1 + 31) (by omega)] at h31
    exact absurd h31 (by decide)
  | false =>
    rw [hb] at h
    simp only [Bool.false_eq_true, if_false, BitVec.xor_zero] at h
    apply BitVec.eq_of_getLsbD_eq
    intro i hi
    cases i with
    | zero => rw [hb]; rfl
    | succ i =>
      have := congrArg (fun x : B => x.getLsbD i) h
      simp only [BitVec.getLsbD_ushiftRight] at this
      rw [Nat.add_comm] at this
      rw [this]
      simp
theorem st4_zero {c : B} (h : st4 c = 0#32) : c = 0#32 := stp_zero (stp_zero (stp_zero (stp_zero h)))
theorem st8_zero {c : B} (h : st8 c = 0#32) : c = 0#32 := st4_zero (st4_zero h)
theorem crcU_cons (c : B) (x : UInt8) (l : List UInt8) : crcU c (x :: l) = crcU (st8 (c ^^^ byB x)) l := rfl
theorem byB_zero : byB 0 = 0#32 := rfl
theorem crcU_zeros : ∀ (q : Nat) (c : B), crcU c (List.replicate q 0) = 0#32 → c = 0#32
  | 0, _, h => h
  | q + 1, c, h => by
    rw [List.replicate_succ, crcU_cons, byB_zero, BitVec.xor_zero] at h
    exact st8_zero (crcU_zeros q _ h)
theorem crcU_zeros0 : ∀ (q : Nat), crcU 0#32 (List.replicate q 0) = 0#32
  | 0 => rfl
  | q + 1 => by
    rw [List.replicate_succ, crcU_cons, byB_zero, BitVec.xor_zero, show st8 0#32 = 0#32 by decide]
    exact crcU_zeros0 q
theorem crcU_append (c : B) (a b : List UInt8) : crcU c (a ++ b) = crcU (crcU c a) b := by simp [crcU]
theorem byB_inj {e : UInt8} (h : byB e = 0#32) : e = 0 := by
  have := congrArg BitVec.toNat h
  unfold byB at this
  rw [BitVec.toNat_ofNat] at this
  have hl := e.toNat_lt
  exact UInt8.toNat_inj.1 (by show e.toNat = 0; simp at this; omega)
theorem xor_self8 (x : UInt8) : x ^^^ x = 0 := by simp
theorem zip_self : ∀ l : List UInt8, List.zipWith (· ^^^ ·) l l = List.replicate l.length 0
  | [] => rfl
  | x :: l => by rw [List.zipWith_cons_cons, zip_self l, xor_self8, List.length_cons, List.replicate_succ]
/-- A changed byte changes the checksum. -/
theorem crc_flip {a b : List UInt8} {x e : UInt8} (he : e ≠ 0) : crc (a ++ (x ^^^ e) :: b) ≠ crc (a ++ x :: b) := by
  intro h
  unfold crc at h
  have h' : crcU ones (a ++ (x ^^^ e) :: b) = crcU ones (a ++ x :: b) := by
    have := congrArg (fun y : B => ~~~y) h
    simpa using this
  have hx := crcU_xor (a ++ (x ^^^ e) :: b) (a ++ x :: b) ones ones (by simp)
  rw [h', BitVec.xor_self, BitVec.xor_self] at hx
  rw [List.zipWith_append rfl, List.zipWith_cons_cons, zip_self, zip_self] at hx
  have hxe : (x ^^^ e) ^^^ x = e := by
    rw [UInt8.xor_comm x e, UInt8.xor_assoc, xor_self8]
    simp
  rw [hxe, crcU_append, crcU_zeros0, crcU_cons] at hx
  have h1 := crcU_zeros _ _ hx
  have h2 := st8_zero h1
  rw [BitVec.zero_xor] at h2
  exact he (byB_inj h2)
theorem set_split {l : List UInt8} {p : Nat} (hp : p < l.length) (y : UInt8) : l.set p y = l.take p ++ y :: l.drop (p + 1) := by
  rw [List.set_eq_take_append_cons_drop, if_pos hp]
theorem self_split {l : List UInt8} {p : Nat} (hp : p < l.length) : l = l.take p ++ l[p] :: l.drop (p + 1) := by
  rw [List.getElem_cons_drop hp, List.take_append_drop]
theorem crc_set {l : List UInt8} {p : Nat} {e : UInt8} (hp : p < l.length) (he : e ≠ 0) : crc (l.set p (l[p] ^^^ e)) ≠ crc l := by
  have h := crc_flip (a := l.take p) (b := l.drop (p + 1)) (x := l[p]) he
  rw [← self_split hp, ← set_split hp] at h
  exact h
theorem xor_ne {x e : UInt8} (he : e ≠ 0) : x ^^^ e ≠ x := by
  intro h
  apply he
  have := congrArg (fun y => x ^^^ y) h
  simp only [← UInt8.xor_assoc, xor_self8] at this
  simpa using this

theorem num_inj : ∀ {a b : List UInt8}, a.length = b.length → num a = num b → a = b
  | [], [], _, _ => rfl
  | x :: a, y :: b, h, hn => by
    change x.toNat + 256 * num a = y.toNat + 256 * num b at hn
    have hx := x.toNat_lt
    have hy := y.toNat_lt
    have h1 : x = y := UInt8.toNat_inj.1 (by omega)
    have h2 : num a = num b := by omega
    rw [h1, num_inj (by simpa using h) h2]
  | [], _ :: _, h, _ => by cases h
  | _ :: _, [], h, _ => by cases h
/-- A header with one changed byte is not accepted. -/
theorem decH_flip {l : List UInt8} {p : Nat} {e : UInt8} (hl : l.length = 64) (h0 : (decH l).2 = 0) (hp : p < 64) (he : e ≠ 0) : (decH (l.set p (l[p] ^^^ e))).2 ≠ 0 := by
  have hok : l.take 4 = mag ∧ num (l.drop 56) = 0 ∧ num (sub l 52 56) = (crc (l.take 52)).toNat := by
    unfold decH at h0
    split at h0
    · cases h0
    split at h0
    · cases h0
    split at h0
    · cases h0
    split at h0
    · cases h0
    rename_i _ h2 h3 h4
    exact ⟨Decidable.not_not.1 h2, Decidable.not_not.1 h3, Decidable.not_not.1 h4⟩
  obtain ⟨o1, o2, o3⟩ := hok
  have hne := xor_ne (x := l[p]) he
  have key : ∀ (a b : Nat), a ≤ p → p < b → b ≤ 64 → sub (l.set p (l[p] ^^^ e)) a b ≠ sub l a b := by
    intro a b ha hb hb64 hc
    have h1 := congrArg (fun x : List UInt8 => x[p - a]?) hc
    unfold sub at h1
    simp only [List.getElem?_drop] at h1
    rw [show a + (p - a) = p by omega, List.getElem?_take_of_lt hb, List.getElem?_take_of_lt hb, List.getElem?_set_self (by omega), List.getElem?_eq_getElem (by omega)] at h1
    exact hne (Option.some.inj h1)
  have same : ∀ (a b : Nat), (p < a ∨ b ≤ p) → sub (l.set p (l[p] ^^^ e)) a b = sub l a b := by
    intro a b h
    unfold sub
    apply List.ext_getElem?
    intro i
    rw [List.getElem?_drop, List.getElem?_drop, List.getElem?_take, List.getElem?_take]
    split
    · rw [List.getElem?_set_ne (by omega)]
    · rfl
  have s04 : ∀ x : List UInt8, x.take 4 = sub x 0 4 := fun x => by unfold sub; rw [List.drop_zero]
  have s52 : ∀ x : List UInt8, x.take 52 = sub x 0 52 := fun x => by unfold sub; rw [List.drop_zero]
  have s56 : ∀ x : List UInt8, x.length = 64 → x.drop 56 = sub x 56 64 := fun x hx => by unfold sub; rw [List.take_of_length_le (by omega)]
  have hl' : (l.set p (l[p] ^^^ e)).length = 64 := by rw [List.length_set, hl]
  unfold decH
  rw [if_neg (by omega)]
  by_cases c1 : p < 4
  · rw [if_pos (by rw [s04, ← o1, s04]; exact key 0 4 (by omega) c1 (by omega))]
    simp
  rw [if_neg (by rw [s04, same 0 4 (.inr (by omega)), ← s04, o1]; simp)]
  by_cases c2 : 56 ≤ p
  · rw [if_pos (by
      intro hz
      apply key 56 64 c2 hp (by omega)
      rw [← s56 _ hl', ← s56 _ hl]
      exact num_inj (by rw [List.length_drop, List.length_drop, hl', hl]) (by rw [hz, o2]))]
    simp
  rw [if_neg (by rw [s56 _ hl', same 56 64 (.inl (by omega)), ← s56 _ hl, o2]; simp)]
  by_cases c3 : 52 ≤ p
  · rw [if_pos (by
      rw [s52, same 0 52 (.inr c3), ← s52, ← o3]
      intro hz
      exact key 52 56 c3 (by omega) (by omega) (num_inj (by rw [sub_length (by omega), sub_length (by omega)]) hz))]
    simp
  · rw [if_pos (by
      rw [same 52 56 (.inl (by omega)), o3]
      intro hz
      have hcr : (l.set p (l[p] ^^^ e)).take 52 = (l.take 52).set p ((l.take 52)[p]'(by rw [List.length_take]; omega) ^^^ e) := by
        rw [List.take_set, List.getElem_take]
      rw [hcr] at hz
      exact crc_set (l := l.take 52) (p := p) (by rw [List.length_take]; omega) he (BitVec.eq_of_toNat_eq hz.symm))]
    simp
theorem decI_ne0 {ss : List (List UInt8)} {e : Int} (h : decI ss = .inl e) : e ≠ 0 := by
  unfold decI at h
  split at h
  · cases h; decide
  · split at h
    · cases h; decide
    split at h
    · rename_i hne
      cases h
      exact hne
    split at h
    · cases h; decide
    split at h
    · cases h; decide
    split at h
    · cases h; decide
    split at h
    · cases h
    · cases h; decide
theorem flatten_set : ∀ (r : List (List UInt8)) (j p : Nat) (y : UInt8) (hj : j < r.length), (∀ s ∈ r, s.length = 64) → p < 64 → (r.set j (r[j].set p y)).flatten = r.flatten.set (64 * j + p) y
  | s :: r, 0, p, y, _, h, hp => by
    have hs := h s (.head _)
    rw [List.set_cons_zero, List.flatten_cons, List.flatten_cons, List.set_append_left _ _ (by omega)]
    simp
  | s :: r, j + 1, p, y, hj, h, hp => by
    have hs := h s (.head _)
    rw [List.set_cons_succ, List.flatten_cons, List.flatten_cons, List.set_append_right _ _ (by omega), hs]
    rw [show 64 * (j + 1) + p - 64 = 64 * j + p by omega, ← flatten_set r j p y (by simpa using hj) (fun x hx => h x (.tail _ hx)) hp]
    rfl
theorem cuts_at {l : List UInt8} {j : Nat} (hj : j < (cuts l).length) : (cuts l)[j] = ((pad l).drop (64 * j)).take 64 := by
  have h : (cuts l)[j]? = some (((pad l).drop (64 * j)).take 64) := by
    have hj' : j < (pad l).length / 64 := by unfold cuts at hj; rwa [chunks_length] at hj
    unfold cuts chunks
    rw [List.getElem?_map, List.getElem?_range hj']
    rfl
  rw [List.getElem?_eq_getElem hj] at h
  exact Option.some.inj h
theorem cuts_byte {l : List UInt8} {j p : Nat} (hj : j < (cuts l).length) (hp : p < 64) (ho : 64 * j + p < l.length) (hq : p < ((cuts l)[j]).length) : (cuts l)[j][p] = l[64 * j + p] := by
  have h2 : ((cuts l)[j])[p]? = l[64 * j + p]? := by
    rw [cuts_at hj, List.getElem?_take_of_lt hp, List.getElem?_drop]
    unfold pad
    rw [List.getElem?_append_left ho]
  rw [List.getElem?_eq_getElem hq, List.getElem?_eq_getElem ho] at h2
  exact Option.some.inj h2
theorem body_flip {l : List UInt8} {j p : Nat} {y : UInt8} (hj : j < (cuts l).length) (hp : p < 64) : ((cuts l).set j ((cuts l)[j].set p y)).flatten.take l.length = l.set (64 * j + p) y := by
  rw [flatten_set _ j p y hj (cuts_len l) hp, cuts_flat, List.take_set]
  unfold pad
  rw [List.take_left]
theorem decI_five {s0 : List UInt8} {r : List (List UInt8)} {n s : Nat} (hall : ∀ x ∈ s0 :: r, x.length = 64) (hH : (decH s0).2 = 0) (h3 : num (sub s0 44 48) = n) (h4 : num (sub s0 48 52) = s) (hn : ¬ r.length * 64 < n) (hc : (crc (r.flatten.take n)).toNat ≠ s) : decI (s0 :: r) = .inl 5 := by
  unfold decI
  dsimp only
  rw [if_neg (by simpa using hall), if_neg (by rw [hH]; simp), h3, h4, if_neg hn, if_pos hc]
theorem decI_hdr {s0 : List UInt8} {r : List (List UInt8)} (hall : ∀ x ∈ s0 :: r, x.length = 64) (hH : (decH s0).2 ≠ 0) : decI (s0 :: r) = .inl (decH s0).2 := by
  unfold decI
  dsimp only
  rw [if_neg (by simpa using hall), if_pos hH]
/-- An image with one changed byte of its header or body is not accepted. -/
theorem decI_flip {g : Nat} {bd : List UInt8} {ps : List Pg} {i p : Nat} {e : UInt8} (hb : bd.length = 32) (hg : g < 18446744073709551616) (h : OkP ps) (hi : i < (secs g bd ps).length) (hp : p < 64) (hip : 64 * i + p < 64 + (bodyOf ps).length) (he : e ≠ 0)
    (hpl : p < ((secs g bd ps)[i]).length) : ∃ c, decI ((secs g bd ps).set i ((secs g bd ps)[i].set p ((secs g bd ps)[i][p] ^^^ e))) = .inl c := by
  have hbl := body_lt h
  have hcr := (crc (bodyOf ps)).isLt
  obtain ⟨f1, f2, f3, f4⟩ := hdr_fields (g := g) (n := (bodyOf ps).length) (s := (crc (bodyOf ps)).toNat) hb hg (by omega) (by omega)
  have hH := decH_hdr (g := g) (n := (bodyOf ps).length) (s := (crc (bodyOf ps)).toNat) hb hg (by omega) (by omega)
  have hHl := hdr_length (g := g) (n := (bodyOf ps).length) (s := (crc (bodyOf ps)).toNat) hb
  have hall := secs_len (g := g) hb ps
  have hcl := cuts_len (bodyOf ps)
  have hcount := cuts_count (bodyOf ps)
  have hpm := pad_mod (bodyOf ps)
  rw [pad_length] at hpm
  unfold secs at hi hpl hall ⊢
  generalize hdr g bd (bodyOf ps).length (crc (bodyOf ps)).toNat = X at *
  cases i with
  | zero =>
    have hd := decH_flip (l := X) (p := p) (e := e) hHl (by rw [hH]) hp he
    refine ⟨_, decI_hdr (s0 := X.set p (X[p] ^^^ e)) (r := cuts (bodyOf ps)) (fun s hs => ?_) hd⟩
    rcases List.mem_cons.1 hs with rfl | hs
    · rw [List.length_set, hHl]
    · exact hcl s hs
  | succ j =>
    have hj : j < (cuts (bodyOf ps)).length := by simpa using hi
    have hq : p < ((cuts (bodyOf ps))[j]).length := by rw [hcl _ (List.getElem_mem hj)]; exact hp
    have ho : 64 * j + p < (bodyOf ps).length := by omega
    refine ⟨5, decI_five (s0 := X) (r := (cuts (bodyOf ps)).set j ((cuts (bodyOf ps))[j].set p ((cuts (bodyOf ps))[j][p] ^^^ e))) (n := (bodyOf ps).length) (s := (crc (bodyOf ps)).toNat) (fun s hs => ?_) (by rw [hH]) f3 f4 (by rw [List.length_set]; omega) ?_⟩
    · rcases List.mem_cons.1 hs with rfl | hs
      · exact hHl
      · rcases List.mem_or_eq_of_mem_set hs with hs | rfl
        · exact hcl s hs
        · rw [List.length_set]; exact hcl _ (List.getElem_mem hj)
    · rw [body_flip hj hp, cuts_byte hj hp ho hq]
      exact fun hc => crc_set ho he (BitVec.eq_of_toNat_eq hc)
end Go.Proofs.Ytpgekajgbkbpkaa.Im
