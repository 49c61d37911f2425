/-
  A flash memory: bytes bit by bit; what a few calls leave. No program in sight.
-/
import Derived.Test.YtbfkhnaknbkilaaFlM
namespace Go.Proofs.Ytbfkhnaknbkilaa.Fl
open Go Go.Ev Go.Proofs

theorem u8_ext {x y : UInt8} (h : ∀ i, i < 8 → x.toBitVec.getLsbD i = y.toBitVec.getLsbD i) : x = y := by
  apply UInt8.eq_of_toBitVec_eq
  apply BitVec.eq_of_getLsbD_eq
  intro i hi
  exact h i hi
theorem sub_bits {o d : UInt8} (h : d &&& ~~~o = 0) (i : Nat) (hi : i < 8) : d.toBitVec.getLsbD i = true → o.toBitVec.getLsbD i = true := by
  intro hd
  have h1 : (d &&& ~~~o).toBitVec.getLsbD i = (0 : UInt8).toBitVec.getLsbD i := by rw [h]
  simp only [UInt8.toBitVec_and, UInt8.toBitVec_not, BitVec.getLsbD_and, BitVec.getLsbD_not, hd, Bool.true_and] at h1
  have h0 : (0 : UInt8).toBitVec.getLsbD i = false := by
    show (0 : BitVec 8).getLsbD i = false
    simp
  rw [h0] at h1
  simp only [hi, decide_true, Bool.true_and] at h1
  cases ho : o.toBitVec.getLsbD i with
  | true => rfl
  | false => rw [ho] at h1; cases h1
theorem zero_bit (i : Nat) : (0 : UInt8).toBitVec.getLsbD i = false := by
  show (0 : BitVec 8).getLsbD i = false
  simp
theorem full_bit {i : Nat} (hi : i < 8) : (255 : UInt8).toBitVec.getLsbD i = true := by
  have : ∀ i : Fin 8, (255 : UInt8).toBitVec.getLsbD i.val = true := by decide +kernel
  exact this ⟨i, hi⟩

/-- What is programmed once more fits. -/
theorem clr_fits {o d m : UInt8} (h : d &&& ~~~o = 0) : d &&& ~~~(clr o d m) = 0 := by
  apply u8_ext
  intro i hi
  have hb := sub_bits h i hi
  rw [zero_bit]
  simp only [clr, UInt8.toBitVec_and, UInt8.toBitVec_not, BitVec.getLsbD_and, BitVec.getLsbD_not, hi, decide_true, Bool.true_and]
  cases hd : d.toBitVec.getLsbD i with
  | false => rfl
  | true => rw [hb hd]; cases m.toBitVec.getLsbD i <;> rfl
/-- An interrupted byte has the bits that the mask selects. -/
theorem clr_mask {o d m : UInt8} (h : d &&& ~~~o = 0) : clr o d m = (o &&& ~~~m) ||| (d &&& m) := by
  apply u8_ext
  intro i hi
  have hb := sub_bits h i hi
  simp only [clr, UInt8.toBitVec_and, UInt8.toBitVec_or, UInt8.toBitVec_not, BitVec.getLsbD_and, BitVec.getLsbD_or, BitVec.getLsbD_not, hi, decide_true, Bool.true_and]
  cases hd : d.toBitVec.getLsbD i with
  | false => cases o.toBitVec.getLsbD i <;> cases m.toBitVec.getLsbD i <;> rfl
  | true => rw [hb hd]; cases m.toBitVec.getLsbD i <;> rfl
theorem era_mask (o m : UInt8) : o ||| m = (o &&& ~~~m) ||| (255 &&& m) := by
  apply u8_ext
  intro i hi
  simp only [UInt8.toBitVec_and, UInt8.toBitVec_or, UInt8.toBitVec_not, BitVec.getLsbD_and, BitVec.getLsbD_or, BitVec.getLsbD_not, hi, decide_true, Bool.true_and, full_bit hi]
  cases o.toBitVec.getLsbD i <;> cases m.toBitVec.getLsbD i <;> rfl
theorem mix_in (a b m : UInt8) : (a &&& b) &&& ~~~((a &&& ~~~m) ||| (b &&& m)) = 0 ∧ ((a &&& ~~~m) ||| (b &&& m)) &&& ~~~(a ||| b) = 0 := by
  constructor
  · apply u8_ext
    intro i hi
    rw [zero_bit]
    simp only [UInt8.toBitVec_and, UInt8.toBitVec_or, UInt8.toBitVec_not, BitVec.getLsbD_and, BitVec.getLsbD_or, BitVec.getLsbD_not, hi, decide_true, Bool.true_and]
    cases a.toBitVec.getLsbD i <;> cases b.toBitVec.getLsbD i <;> cases m.toBitVec.getLsbD i <;> rfl
  · apply u8_ext
    intro i hi
    rw [zero_bit]
    simp only [UInt8.toBitVec_and, UInt8.toBitVec_or, UInt8.toBitVec_not, BitVec.getLsbD_and, BitVec.getLsbD_or, BitVec.getLsbD_not, hi, decide_true, Bool.true_and]
    cases a.toBitVec.getLsbD i <;> cases b.toBitVec.getLsbD i <;> cases m.toBitVec.getLsbD i <;> rfl
theorem and_sub (x o : UInt8) : (x &&& o) &&& ~~~o = 0 := by
  apply u8_ext
  intro i hi
  rw [zero_bit]
  simp only [UInt8.toBitVec_and, UInt8.toBitVec_not, BitVec.getLsbD_and, BitVec.getLsbD_not, hi, decide_true, Bool.true_and]
  cases x.toBitVec.getLsbD i <;> cases o.toBitVec.getLsbD i <;> rfl
theorem or_full (x : UInt8) : x ||| 255 = 255 := by
  apply u8_ext
  intro i hi
  simp only [UInt8.toBitVec_or, BitVec.getLsbD_or, full_bit hi, Bool.or_true]

theorem sel_full {i : Nat} : sel full i = 255 := by
  have : ∀ j : Fin 8, UInt8.ofNat (full / 256 ^ j.val) = 255 := by decide +kernel
  exact this ⟨i % 8, Nat.mod_lt _ (by omega)⟩
theorem eraT_full (o : Pg) : eraT full o = ff := by
  unfold eraT ff
  apply List.ext_getElem
  · simp
  · intro i h1 h2
    simp only [List.getElem_map, List.getElem_range, sel_full, or_full, List.getElem_replicate]
theorem progT_get (t : Nat) (o d : Pg) {i : Nat} (hi : i < 64) : (progT t o d).getD i 0 = clr (o.getD i 0) (d.getD i 0) (sel t i) := by
  unfold progT
  rw [List.getD_eq_getElem?_getD, List.getElem?_map, List.getElem?_range hi]; rfl
theorem eraT_get (t : Nat) (o : Pg) {i : Nat} (hi : i < 64) : (eraT t o).getD i 0 = o.getD i 0 ||| sel t i := by
  unfold eraT
  rw [List.getD_eq_getElem?_getD, List.getElem?_map, List.getElem?_range hi]; rfl
theorem ff_get {i : Nat} (hi : i < 64) : ff.getD i 0 = 255 := by
  unfold ff
  rw [List.getD_eq_getElem?_getD, List.getElem?_replicate, if_pos hi]; rfl
/-- A call that only clears bits fits. -/
theorem dat_fits {c : Cl} {was : Pg} (hc : c.and_ = true) (hw : was.length = 64) : fits was (dat c was) = true := by
  rw [fits_upto]
  intro i hi
  rw [dat_get c was hi]
  unfold datB
  rw [if_pos ⟨hc, by omega⟩]
  exact and_sub _ _
theorem again_fits {t : Nat} {o d : Pg} (h : fits o d = true) : fits (progT t o d) d = true := by
  rw [fits_upto] at h ⊢
  intro i hi
  rw [progT_get t o d hi]
  exact clr_fits (h i hi)

/-- The flash after i calls of Program, Read or Erase. -/
structure Pre (nb np en i : Nat) (s : Fs) : Prop where
  ok : Ok s
  nb : s.nb = nb
  np : s.np = np
  en : s.en = en
  on : s.off = false
  nc : s.cut = false
  er : ∀ x ∈ s.er, x ≤ i
theorem intr_none {s : Fs} (h : s.cut = false) : intr s = (s, false) := by unfold intr; rw [if_pos h]
theorem Pre.le {nb np en i : Nat} {s : Fs} (h : Pre nb np en i s) : Pre nb np en (i + 1) s := ⟨h.ok, h.nb, h.np, h.en, h.on, h.nc, fun x hx => Nat.le_succ_of_le (h.er x hx)⟩
theorem Pre.prog {nb np en i : Nat} {s : Fs} (h : Pre nb np en i s) (b q : Int) (d : Pg) : Pre nb np en (i + 1) (prog s b q d).1 := by
  have hok := h.ok.prog b q d
  revert hok
  unfold Fl.prog
  rw [intr_none h.nc]
  split
  · exact fun _ => h.le
  split
  · exact fun _ => h.le
  split
  · exact fun _ => h.le
  split
  · rename_i hx; cases hx
  · exact fun hok => ⟨hok, h.nb, h.np, h.en, h.on, h.nc, fun x hx => Nat.le_succ_of_le (h.er x hx)⟩
theorem mem_set_le {l : List Nat} {b v n : Nat} (h : ∀ x ∈ l, x ≤ n) (hv : v ≤ n + 1) : ∀ x ∈ l.set b v, x ≤ n + 1 := by
  intro x hx
  rcases List.mem_or_eq_of_mem_set hx with h1 | rfl
  · exact Nat.le_succ_of_le (h x h1)
  · exact hv
theorem getD_le {l : List Nat} {n : Nat} (h : ∀ x ∈ l, x ≤ n) (b : Nat) : l.getD b 0 ≤ n := by
  rw [List.getD_eq_getElem?_getD]
  cases hg : l[b]? with
  | none => exact Nat.zero_le _
  | some x => exact h x (List.mem_of_getElem? hg)
theorem Pre.era {nb np en i : Nat} {s : Fs} (h : Pre nb np en i s) (b : Int) : Pre nb np en (i + 1) (era s b).1 := by
  have hok := h.ok.era b
  revert hok
  unfold Fl.era
  rw [intr_none (s := { s with er := s.er.set b.toNat (s.er.getD b.toNat 0 + 1) }) h.nc]
  split
  · exact fun _ => h.le
  split
  · exact fun _ => h.le
  split
  · exact fun _ => h.le
  split
  · rename_i hx; cases hx
  · exact fun hok => ⟨hok, h.nb, h.np, h.en, h.on, h.nc, mem_set_le h.er (by have := getD_le h.er b.toNat; omega)⟩
theorem Pre.doF {nb np en i : Nat} {s : Fs} (h : Pre nb np en i s) (c : Cl) (b q : Int) (was : Pg) : Pre nb np en (i + 1) (doF s c b q was).1 := by
  unfold Fl.doF
  split
  · exact h.prog _ _ _
  split
  · exact h.le
  · exact h.era _
theorem pre_new {nb np en : Nat} (h1 : 1 ≤ nb) (h2 : nb ≤ 32) (h3 : 1 ≤ np) (h4 : np ≤ 32) (h5 : en ≤ 1048576) : Pre nb np en 0 (new nb np en) :=
  ⟨ok_new h1 h2 h3 h4 h5, rfl, rfl, rfl, rfl, rfl, fun x hx => by simp only [new, List.mem_replicate] at hx; omega⟩
theorem rd_in {s : Fs} {b q : Nat} (ho : s.off = false) (hb : b < s.nb) (hq : q < s.np) : rd s (b : Int) (q : Int) = (page s b q, 0) := by
  have hp : isP s (b : Int) (q : Int) = true := by
    unfold isP isB
    rw [decide_eq_true (by omega), decide_eq_true (by omega), decide_eq_true (by omega), decide_eq_true (by omega)]
    rfl
  unfold rd
  rw [if_neg (by simp [hp]), if_neg (by simp [ho]), Int.toNat_natCast, Int.toNat_natCast]
theorem isP_in {s : Fs} {b q : Nat} (hb : b < s.nb) (hq : q < s.np) : isP s (b : Int) (q : Int) = true := by
  unfold isP isB
  rw [decide_eq_true (by omega), decide_eq_true (by omega), decide_eq_true (by omega), decide_eq_true (by omega)]
  rfl
theorem isB_in {s : Fs} {b : Nat} (hb : b < s.nb) : isB s (b : Int) = true := by
  unfold isB
  rw [decide_eq_true (by omega), decide_eq_true (by omega)]
  rfl
theorem page_setP {s : Fs} (hok : Ok s) {b q : Nat} (hb : b < s.nb) (hq : q < s.np) (d : Pg) : page (setP s b q d) b q = d := by
  unfold page setP
  dsimp only
  rw [List.getD_eq_getElem?_getD (l := s.pg.set _ _), List.getElem?_set_self (by rw [hok.lp]; exact hb), Option.getD_some, List.getD_eq_getElem?_getD, List.getElem?_set_self (by rw [hok.rowl hb]; exact hq)]
  rfl
theorem page_setP_ne {s : Fs} (hok : Ok s) {b q r : Nat} (hb : b < s.nb) (h : q ≠ r) (d : Pg) : page (setP s b q d) b r = page s b r := by
  unfold page setP
  dsimp only
  rw [List.getD_eq_getElem?_getD (l := s.pg.set _ _), List.getElem?_set_self (by rw [hok.lp]; exact hb), Option.getD_some, List.getD_eq_getElem?_getD, List.getElem?_set_ne h, ← List.getD_eq_getElem?_getD]
theorem page_eraB {s : Fs} (hok : Ok s) {b q m : Nat} (hb : b < s.nb) (hq : q < s.np) : page (eraB s b m) b q = eraT m (page s b q) := by
  unfold page eraB
  dsimp only
  rw [List.getD_eq_getElem?_getD (l := s.pg.set _ _), List.getElem?_set_self (by rw [hok.lp]; exact hb), Option.getD_some, List.getD_eq_getElem?_getD, List.getElem?_map]
  have hr := hok.rowl hb
  rw [List.getElem?_eq_getElem (by rw [hr]; exact hq), List.getD_eq_getElem?_getD (l := s.pg.getD b []), List.getElem?_eq_getElem (by rw [hr]; exact hq)]
  rfl
end Go.Proofs.Ytbfkhnaknbkilaa.Fl
