/-
  An image with its pages: what Encode returns. No condition beyond those stated.
-/
import Derived.Test.YtpgekajgbkbpkaaImE
import Derived.Test.YtpgekajgbkbpkaaPzP
import Derived.Test.YtpgekajgbkbpkaaBui
import Derived.Test.YtpgekajgbkbpkaaOpn
namespace Go.Proofs.Ytpgekajgbkbpkaa.Im
open Go Go.Ev Go.Proofs

abbrev Pg := Int × List UInt8
def pgC (p : Pg) : List Value := [.int .i64 p.1, .string (mkS p.2)]
theorem pgC_length (p : Pg) : (pgC p).length = 2 := rfl
theorem pgC_one (p : Pg) : ∀ v ∈ pgC p, one v = true := by
  intro v hv
  simp only [pgC, List.mem_cons, List.not_mem_nil, or_false] at hv
  rcases hv with rfl | rfl <;> rfl
def imgC (bd : List UInt8) (g : Nat) (pa : Option Addr) (n c : Nat) : List Value := by_ bd ++ [.int .u64 (g : Int), .slice pa n c]
theorem imgC_length {bd : List UInt8} {g : Nat} {pa : Option Addr} {n c : Nat} (h : bd.length = 32) : (imgC bd g pa n c).length = 34 := by simp [imgC, by_length, h]
theorem imgC_32 {bd : List UInt8} {g : Nat} {pa : Option Addr} {n c : Nat} (h : bd.length = 32) : (imgC bd g pa n c)[32]? = some (.int .u64 (g : Int)) := by
  unfold imgC
  rw [List.getElem?_append_right (by rw [by_length]; omega), by_length, h]
  rfl
theorem imgC_33 {bd : List UInt8} {g : Nat} {pa : Option Addr} {n c : Nat} (h : bd.length = 32) : (imgC bd g pa n c)[33]? = some (.slice pa n c) := by
  unfold imgC
  rw [List.getElem?_append_right (by rw [by_length]; omega), by_length, h]
  rfl
theorem imgC_one (bd : List UInt8) (g : Nat) (pa : Option Addr) (n c : Nat) : ∀ v ∈ imgC bd g pa n c, one v = true := by
  intro v hv
  unfold imgC at hv
  rcases List.mem_append.1 hv with hv | hv
  · exact by_one _ _ hv
  · simp only [List.mem_cons, List.not_mem_nil, or_false] at hv
    rcases hv with rfl | rfl <;> rfl

/-- Numbers from 0 to 2^31 - 1, each above the one ahead of it. -/
def incr : Int → List Pg → Bool
  | _, [] => true
  | m, p :: r => decide (0 ≤ p.1) && decide (p.1 ≤ 2147483647) && decide (m < p.1) && incr p.1 r
theorem incr_cons (m : Int) (p : Pg) (r : List Pg) : incr m (p :: r) = (decide (0 ≤ p.1) && decide (p.1 ≤ 2147483647) && decide (m < p.1) && incr p.1 r) := rfl
def validP (ps : List Pg) : Bool := decide (ps.length ≤ 512) && incr (-1) ps
def OkP (ps : List Pg) : Prop := validP ps = true ∧ ∀ p ∈ ps, p.2.length = 256
def prev (ps : List Pg) : Nat → Int
  | 0 => -1
  | i + 1 => (ps.getD i (0, [])).1
theorem incr_mem : ∀ {ps : List Pg} {m : Int}, incr m ps = true → ∀ p ∈ ps, 0 ≤ p.1 ∧ p.1 ≤ 2147483647
  | p :: r, m, h, q, hq => by
    simp only [incr, Bool.and_eq_true, decide_eq_true_eq] at h
    rcases List.mem_cons.1 hq with rfl | hq
    · exact ⟨h.1.1.1, h.1.1.2⟩
    · exact incr_mem h.2 q hq
def pgB (p : Pg) : List UInt8 := le p.1.toNat 4 ++ le (Pz.comp p.2).length 2 ++ Pz.comp p.2
def bodyOf (ps : List Pg) : List UInt8 := ps.flatMap pgB
def padn (n : Nat) : Nat := (64 - n % 64) % 64
def pad (l : List UInt8) : List UInt8 := l ++ List.replicate (padn l.length) 0
def chunks (k : Nat) (l : List UInt8) : List (List UInt8) := (List.range k).map fun j => (l.drop (64 * j)).take 64
def cuts (l : List UInt8) : List (List UInt8) := chunks ((pad l).length / 64) (pad l)
def secs (g : Nat) (bd : List UInt8) (ps : List Pg) : List (List UInt8) := hdr g bd (bodyOf ps).length (crc (bodyOf ps)).toNat :: cuts (bodyOf ps)
def strs (ss : List (List UInt8)) : List Value := ss.map fun s => .string (mkS s)
theorem strs_length (ss : List (List UInt8)) : (strs ss).length = ss.length := by simp [strs]
theorem strs_one (ss : List (List UInt8)) : ∀ v ∈ strs ss, one v = true := by
  intro v hv
  simp only [strs, List.mem_map] at hv
  obtain ⟨s, _, rfl⟩ := hv
  rfl
theorem chunks_length (k : Nat) (l : List UInt8) : (chunks k l).length = k := by simp [chunks]
theorem chunks_succ (k : Nat) (l : List UInt8) : chunks (k + 1) l = chunks k l ++ [(l.drop (64 * k)).take 64] := by simp [chunks, List.range_succ]
theorem pad_length (l : List UInt8) : (pad l).length = l.length + padn l.length := by simp [pad]
theorem pad_mod (l : List UInt8) : (pad l).length % 64 = 0 := by
  rw [pad_length]
  unfold padn
  omega
theorem pgB_le {p : Pg} (h : p.2.length = 256) : (pgB p).length ≤ 263 := by
  have := (Pz.comp_length h).2
  unfold pgB
  simp only [List.length_append, le_length]
  omega
theorem bodyOf_le : ∀ {ps : List Pg}, (∀ p ∈ ps, p.2.length = 256) → (bodyOf ps).length ≤ 263 * ps.length
  | [], _ => by simp [bodyOf]
  | p :: r, h => by
    have h1 := pgB_le (h p (.head _))
    have h2 := bodyOf_le (ps := r) fun q hq => h q (.tail _ hq)
    unfold bodyOf at h2 ⊢
    rw [List.flatMap_cons, List.length_append, List.length_cons]
    omega

section
variable {U w : World} {Q : Value → World → Prop}

theorem validPages_c {pa : Option Addr} {n c : Nat} {ps : List Pg} (h : Reads w pa (ps.flatMap pgC)) (hn : ps.length = n) (hQ : ∀ w', Ext w w' (fun _ => False) → Q (.bool (validP ps)) w') : CallE Try.prog 33 #[.slice pa n c] w Q := by
  apply C.image_validPages
  unfold W.image_validPages
  subst hn
  unfold validP at hQ
  by_cases h5 : ps.length ≤ 512
  case neg =>
    rw [decide_eq_false h5, Bool.false_and] at hQ
    rw [decide_eq_true (by omega), br_true]
    exact hQ w (Ext.refl _ _)
  rw [decide_eq_true h5, Bool.true_and] at hQ
  rw [decide_eq_false (by omega), br_false]
  refine LoopW.nat ps.length (fun i x w' => x = ((i : Int), ()) ∧ Ext w w' (fun _ => False) ∧ incr (-1) ps = incr (prev ps i) (ps.drop i)) ⟨rfl, Ext.refl _ _, rfl⟩ ?_
  rintro i x w1 next hi ⟨rfl, e1, hv⟩ hnext
  dsimp only
  by_cases hlt : i < ps.length
  case neg =>
    rw [decide_eq_false (by omega), br_false]
    obtain rfl : i = ps.length := by omega
    rw [List.drop_length] at hv
    have := hQ w1 e1
    rw [hv] at this
    exact this
  rw [decide_eq_true (by omega), br_true]
  have hr := h.ext e1 (fun _ _ _ h => h)
  have hl0 : 0 < (ps.flatMap pgC).length := by rw [flat_length pgC_length]; omega
  obtain ⟨p, rfl⟩ := hr.some_ hl0
  refine ixs i 2 52 hlt ?_
  refine rdG i hlt hr pgC_length (by omega) (fg ?_)
  refine al_st 2 (pgC_length _) (pgC_one _) fun vb w2 hvb a2 e2 z2 => ?_
  simp only [add_mk, Nat.zero_add]
  have hv' : ∀ b : Bool, (decide (0 ≤ ps[i].1) && decide (ps[i].1 ≤ 2147483647) && decide (prev ps i < ps[i].1)) = b → (b = false → incr (-1) ps = false) ∧ (b = true → incr (-1) ps = incr (prev ps (i + 1)) (ps.drop (i + 1))) := by
    intro b hb
    rw [List.drop_eq_getElem_cons hlt, incr_cons, hb] at hv
    constructor
    · rintro rfl; rw [hv]; rfl
    · rintro rfl
      rw [hv, Bool.true_and]
      have : prev ps (i + 1) = ps[i].1 := by simp [prev, List.getD_eq_getElem?_getD, List.getElem?_eq_getElem hlt]
      rw [this]
  have bad : ∀ w', Ext w1 w' (fun _ => False) → (decide (0 ≤ ps[i].1) && decide (ps[i].1 ≤ 2147483647) && decide (prev ps i < ps[i].1)) = false → Q (.bool false) w' := by
    intro w' e' hb
    have := hQ w' (e1.tr e')
    rw [(hv' _ hb).1 rfl] at this
    exact this
  refine ldI a2 rfl ?_
  by_cases c1 : ps[i].1 < 0
  · rw [decide_eq_true c1, br_true]
    exact bad w2 e2 (by rw [decide_eq_false (by omega)]; rfl)
  rw [decide_eq_false c1, br_false]
  refine ldI a2 rfl ?_
  by_cases c2 : ps[i].1 > 2147483647
  · rw [decide_eq_true c2, br_true]
    exact bad w2 e2 (by rw [decide_eq_true (by omega), decide_eq_false (by omega)]; rfl)
  rw [decide_eq_false c2, br_false]
  unfold dr
  dsimp only
  have e2' := e2.drew_
  by_cases c3 : i = 0
  · subst c3
    rw [decide_eq_false (by omega), br_false]
    refine hnext hlt _ _ ⟨rfl, e1.tr e2', (hv' _ ?_).2 rfl⟩
    rw [decide_eq_true (by omega), decide_eq_true (by omega), decide_eq_true (by show -1 < _; omega)]
    rfl
  rw [decide_eq_true (by omega), br_true]
  refine ldI (w := drew w2) a2.drew_ rfl ?_
  obtain ⟨k, rfl⟩ : ∃ k, i = k + 1 := ⟨i - 1, by omega⟩
  rw [show IntKind.wrap .i64 (((k + 1 : Nat) : Int) - 1) = ((k : Nat) : Int) by rw [wrap_i64 (by omega) (by omega)]; omega]
  refine ixs k 2 52 (by omega) ?_
  refine rdF (o := 0) k (by omega) (hr.ext e2' (fun _ _ _ h => h)) pgC_length (by omega) rfl (fi ?_)
  have hpk : prev ps (k + 1) = (ps[k]'(by omega)).1 := by simp [prev, List.getD_eq_getElem?_getD, List.getElem?_eq_getElem (show k < ps.length by omega)]
  by_cases c4 : ps[k + 1].1 ≤ (ps[k]'(by omega)).1
  · rw [decide_eq_true c4, br_true]
    exact bad _ e2' (by rw [hpk, decide_eq_false (p := (ps[k]'(by omega)).1 < ps[k + 1].1) (by omega), Bool.and_false])
  rw [decide_eq_false c4, br_false, inc_nat (by omega)]
  refine hnext hlt _ _ ⟨rfl, e1.tr e2', (hv' _ ?_).2 rfl⟩
  rw [hpk, decide_eq_true (by omega), decide_eq_true (by omega), decide_eq_true (by omega)]
  rfl
end
end Go.Proofs.Ytpgekajgbkbpkaa.Im
