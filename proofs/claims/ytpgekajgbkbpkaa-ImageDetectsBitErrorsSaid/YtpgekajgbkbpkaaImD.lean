/-
  The header of an image: what DecodeHeader returns. No condition beyond those stated.
-/
import Derived.Test.YtpgekajgbkbpkaaImH
namespace Go.Proofs.Ytpgekajgbkbpkaa.Im
open Go Go.Ev Go.Proofs

def mag : List UInt8 := [72, 73, 66, 49]
/-- The bytes from i up to j. -/
def sub (l : List UInt8) (i j : Nat) : List UInt8 := (l.take j).drop i
theorem sub_length {l : List UInt8} {i j : Nat} (h : j ≤ l.length) : (sub l i j).length = j - i := by unfold sub; rw [List.length_drop, List.length_take, Nat.min_eq_left h]
def zb : List UInt8 := List.replicate 32 0
def decH (l : List UInt8) : List Value × Int :=
  if l.length ≠ 64 then (hdrC 0 zb 0 0, 3) else if l.take 4 ≠ mag then (hdrC 0 zb 0 0, 3) else if num (l.drop 56) ≠ 0 then (hdrC 0 zb 0 0, 3)
  else if num (sub l 52 56) ≠ (crc (l.take 52)).toNat then (hdrC 0 zb 0 0, 5)
  else (hdrC (num (sub l 4 12)) (sub l 12 44) (num (sub l 44 48)) (num (sub l 48 52)), 0)
theorem hdrC_length {g n s : Nat} {bd : List UInt8} (h : bd.length = 32) : (hdrC g bd n s).length = 35 := by simp [hdrC, by_length, h]
theorem hdrC_one (g n s : Nat) (bd : List UInt8) : ∀ v ∈ hdrC g bd n s, one v = true := by
  intro v hv
  unfold hdrC at hv
  rcases List.mem_cons.1 hv with rfl | hv
  · rfl
  rcases List.mem_append.1 hv with hv | hv
  · exact by_one _ _ hv
  · simp only [List.mem_cons, List.not_mem_nil, or_false] at hv
    rcases hv with rfl | rfl <;> rfl

section
variable {U w : World} {Q : Value → World → Prop}

theorem hasPrefix_c {l m : List UInt8} (h : m.length ≤ l.length) (hQ : Q (.bool (decide (l.take m.length = m))) w) : CallE Try.prog 28 #[.string (mkS l), .string (mkS m)] w Q := by
  apply C.strings_HasPrefix
  unfold W.strings_HasPrefix
  apply C.internal_stringslite_HasPrefix
  unfold W.internal_stringslite_HasPrefix
  rw [mkS_size, mkS_size, decide_eq_true (by omega), br_true]
  refine qT (s_hi (by omega) (by omega)) ?_
  refine qB s_eq ?_
  rw [Int.toNat_natCast]
  exact fb hQ
theorem splice_all {cs vs : List Value} (h : vs.length = cs.length) : splice cs 0 vs = vs := by
  rw [splice_eq _ _ _ (by omega), List.take_zero, List.nil_append, Nat.zero_add, h, List.drop_length, List.append_nil]
theorem splice_hdr {g n s : Nat} {bd : List UInt8} (h : bd.length = 32) : splice (hdrC g zb n s) 1 (by_ bd) = hdrC g bd n s := by
  rw [splice_eq _ _ _ (by rw [hdrC_length rfl, by_length, h]; omega), by_length, h]
  rfl

theorem decodeHeader_k8 {l : List UInt8} {rb tb g n s : Nat} (hl : l.length = 64) (hr : At w rb (hdrC 0 zb 0 0) 32) (ht : At w tb (hdrC g zb n s) 32) (hne : rb ≠ tb)
    (hQ : ∀ w', Ext w w' (fun b => b = rb ∨ b = tb) → Q (.tuple #[.agg (hdrC g (sub l 12 44) n s).toArray, .int .i64 0]) w') : W.image_DecodeHeader_k8 (mkS l) ⟨rb, 0, none⟩ ⟨tb, 0, none⟩ w Q := by
  unfold W.image_DecodeHeader_k8
  simp only [add_mk, Nat.zero_add]
  unfold dr
  have hb : (sub l 12 44).length = 32 := sub_length (by omega)
  refine rq_r (a_all 32) (fs ?_)
  refine qT (s_lh (by omega) (by omega) (by rw [hl]; omega)) ?_
  have ed : Ext w (drew w) (fun _ => False) := (Ext.refl _ _).drew_
  refine cp_s 5 (l := sub l 12 44) (w := drew w) (ht.ext ed (fun h => h)) hb (by rw [hdrC_length rfl]; omega) fun w1 a1 e1 z1 => fi ?_
  rw [splice_hdr hb] at a1
  have r1 := (hr.ext ed (fun h => h)).ext e1 hne
  refine ld_w a1 (fg ?_) (hs := by rw [hdrC_length hb]; kernel_rfl)
  refine st_g 35 r1 (by rw [hdrC_length rfl]; omega) (hdrC_length hb) (hdrC_one _ _ _ _) fun w2 a2 e2 z2 => ?_
  rw [splice_all (by rw [hdrC_length hb, hdrC_length rfl])] at a2
  refine ld_w a2 (fg ?_) (hs := by rw [hdrC_length hb]; kernel_rfl)
  exact hQ w2 ((ed.trans e1 (Z := fun b => b = rb ∨ b = tb) (fun _ _ h => h.elim) (fun _ _ h => .inr h)).trans e2 (fun _ _ h => h) (fun _ _ h => .inl h))
theorem num_32 {l : List UInt8} {i j : Nat} (h : j ≤ l.length) (hij : j - i ≤ 4) : num (sub l i j) < 4294967296 := by
  have h1 := num_lt (sub l i j)
  rw [sub_length h] at h1
  exact Nat.lt_of_lt_of_le h1 (show 256 ^ (j - i) ≤ 256 ^ 4 from Nat.pow_le_pow_right (by omega) hij)
theorem wrap_32 {n : Nat} (h : n < 4294967296) : IntKind.wrap .u32 (n : Int) = (n : Int) := by rw [wrap_u32']; omega

theorem decodeHeader_c {l : List UInt8} (hQ : ∀ w', Ext w w' (fun _ => False) → Q (.tuple #[.agg (decH l).1.toArray, .int .i64 (decH l).2]) w') : CallE Try.prog 16 #[.string (mkS l)] w Q := by
  apply C.image_DecodeHeader
  unfold W.image_DecodeHeader
  refine al_i fun rb w1 hrb a1 e1 z1 => ?_
  have hz : (zeroT Try.prog 32).cells.toList = hdrC 0 zb 0 0 := by kernel_rfl
  rw [hz] at a1
  rw [mkS_size]
  unfold decH at hQ
  have bad : ∀ (w' : World) (r : Int), Ext w1 w' (fun _ => False) → (∀ w'', Ext w w'' (fun _ => False) → Q (.tuple #[.agg (hdrC 0 zb 0 0).toArray, .int .i64 r]) w'') →
      st Try.prog 32 ⟨rb, 0, none⟩ (.agg (hdrC 0 zb 0 0).toArray) w' fun w3 => ld Try.prog 32 ⟨rb, 0, none⟩ w3 fun v4 => fG v4 fun g5 => Q (.tuple #[.agg g5, .int .i64 r]) w3 := by
    intro w' r e' hq
    refine st_g 35 (a1.ext e' (fun h => h)) (by rw [hdrC_length rfl]; omega) (hdrC_length rfl) (hdrC_one _ _ _ _) fun w2 a2 e2 z2 => ?_
    rw [splice_all rfl] at a2
    refine ld_w a2 (fg ?_) (hs := by rw [hdrC_length rfl]; kernel_rfl)
    exact hq w2 ((e1.tr e').trans e2 (fun _ _ h => h) (fun b hb hx => by omega))
  by_cases h64 : l.length = 64
  case neg =>
    rw [if_pos h64] at hQ
    rw [show (((l.length : Nat) : Int) != 64) = true by rw [bne_iff_ne]; omega, br_true]
    exact bad w1 3 (Ext.refl _ _) hQ
  rw [if_neg (by omega)] at hQ
  rw [h64, show (((64 : Nat) : Int) != 64) = false from rfl, br_false]
  refine hasPrefix_c (m := mag) (by rw [h64]; show 4 ≤ 64; omega) (fb ?_)
  change br (!decide (l.take 4 = mag)) _ _
  by_cases hm : l.take 4 = mag
  case neg =>
    rw [if_pos hm] at hQ
    rw [decide_eq_false hm, Bool.not_false, br_true]
    exact bad w1 3 (Ext.refl _ _) hQ
  rw [if_neg (by simp [hm])] at hQ
  rw [decide_eq_true hm, Bool.not_true, br_false]
  refine qT (s_lo (by omega) (by rw [h64]; omega)) ?_
  refine number_c (by rw [List.length_drop, h64]; show 64 - 56 ≤ 8; omega) (fi ?_)
  change br (((num (l.drop 56) : Nat) : Int) != 0) _ _
  by_cases hp : num (l.drop 56) = 0
  case neg =>
    rw [if_pos hp] at hQ
    rw [show (((num (l.drop 56) : Nat) : Int) != 0) = true by rw [bne_iff_ne]; omega, br_true]
    exact bad w1 3 (Ext.refl _ _) hQ
  rw [if_neg (by simp [hp])] at hQ
  rw [hp, show (((0 : Nat) : Int) != 0) = false from rfl, br_false]
  refine ⟨fun _ => True, trivial, ?_⟩
  refine qST (s_lh (by omega) (by omega) (by rw [h64]; omega)) ?_
  refine qST (s_hi (by omega) (by rw [h64]; omega)) ?_
  refine number_c (l := sub l 52 56) (by rw [sub_length (by omega)]; omega) (fi ⟨trivial, ?_⟩)
  refine checksum_c (l := l.take 52) (by rw [List.length_take]; omega) fun w2 e2 => fi ⟨trivial, ?_⟩
  have hcr := (crc (l.take 52)).isLt
  rw [wrap_64 (by omega)]
  have e12 : Ext w1 w2 (fun _ => False) := (Ext.refl w1 _).drew_.tr e2
  by_cases hc : num (sub l 52 56) = (crc (l.take 52)).toNat
  case neg =>
    rw [if_pos hc] at hQ
    rw [show (((num (sub l 52 56) : Nat) : Int) != (((crc (l.take 52)).toNat : Nat) : Int)) = true by rw [bne_iff_ne]; omega, br_true]
    exact bad w2 5 e12 hQ
  rw [if_neg (by simp [hc])] at hQ
  rw [hc, bne_self_eq_false, br_false]
  refine ⟨fun _ => True, trivial, ?_⟩
  refine qST (s_lh (by omega) (by omega) (by rw [h64]; omega)) ?_
  refine qST (s_lh (by omega) (by omega) (by rw [h64]; omega)) ?_
  refine qST (s_lh (by omega) (by omega) (by rw [h64]; omega)) ?_
  have n1 : (sub l 4 12).length ≤ 8 := by rw [sub_length (by omega)]; omega
  have n2 : (sub l 44 48).length ≤ 8 := by rw [sub_length (by omega)]; omega
  have n3 : (sub l 48 52).length ≤ 8 := by rw [sub_length (by omega)]; omega
  have k2 := wrap_32 (num_32 (l := l) (i := 44) (j := 48) (by omega) (by omega))
  have k3 := wrap_32 (num_32 (l := l) (i := 48) (j := 52) (by omega) (by omega))
  have e3 : Ext w1 (drew w2) (fun _ => False) := e12.drew_
  have tail : ∀ (tb : Nat) (w' : World), tb = (drew w2).heap.size → At w' tb (hdrC 0 zb 0 0) 32 → Ext (drew w2) w' (fun _ => False) →
      st Try.prog 32 ⟨tb, 0, none⟩ (.agg (hdrC (num (sub l 4 12)) zb (num (sub l 44 48)) (num (sub l 48 52))).toArray) w' fun w3 => True ∧ W.image_DecodeHeader_k8 (mkS l) ⟨rb, 0, none⟩ ⟨tb, 0, none⟩ w3 Q := by
    intro tb w' htb at' e'
    have hlt := a1.lt
    have hs := e3.size
    refine st_g 35 at' (by rw [hdrC_length rfl]; omega) (hdrC_length rfl) (hdrC_one _ _ _ _) fun w3 a3 e4 z3 => ⟨trivial, ?_⟩
    rw [splice_all (by rw [hdrC_length rfl, hdrC_length rfl])] at a3
    refine decodeHeader_k8 h64 (((a1.ext e3 (fun h => h)).ext e' (fun h => h)).ext e4 (by omega)) a3 (by omega) fun w4 e5 => hQ w4 ?_
    have hs1 := e1.size
    exact (((e1.tr e3).tr e').trans e4 (fun _ _ h => h) (fun b hb hx => by omega)).trans e5 (fun _ _ h => h) (fun b hb hx => by rcases hx with hx | hx <;> omega)
  refine ⟨?_, ?_⟩
  · refine number_c (l := sub l 4 12) n1 (fi ⟨trivial, ?_, ?_⟩)
    · refine number_c (l := sub l 44 48) n2 (fi ⟨trivial, ?_, ?_⟩)
      · refine number_c (l := sub l 48 52) n3 (fi ⟨trivial, ?_⟩)
        refine al_i fun tb w3 htb a3 e4 z3 => ⟨trivial, ?_⟩
        rw [hz] at a3
        rw [k2, k3]
        exact tail tb w3 htb a3 e4
      · refine al_i fun tb w3 htb a3 e4 z3 => ⟨trivial, ?_⟩
        rw [hz] at a3
        refine number_c (l := sub l 48 52) n3 (fi ⟨trivial, ?_⟩)
        rw [k2, k3]
        exact tail tb w3 htb a3 e4
    · refine al_i fun tb w3 htb a3 e4 z3 => ⟨trivial, ?_⟩
      rw [hz] at a3
      refine number_c (l := sub l 44 48) n2 (fi ⟨trivial, ?_⟩)
      refine number_c (l := sub l 48 52) n3 (fi ⟨trivial, ?_⟩)
      rw [k2, k3]
      exact tail tb w3 htb a3 e4
  · refine al_i fun tb w3 htb a3 e4 z3 => ⟨trivial, ?_⟩
    rw [hz] at a3
    refine number_c (l := sub l 4 12) n1 (fi ⟨trivial, ?_⟩)
    refine number_c (l := sub l 44 48) n2 (fi ⟨trivial, ?_⟩)
    refine number_c (l := sub l 48 52) n3 (fi ⟨trivial, ?_⟩)
    rw [k2, k3]
    exact tail tb w3 htb a3 e4
end
end Go.Proofs.Ytpgekajgbkbpkaa.Im
