/-
  A flash memory: the plain form. No program in sight.
-/
import Derived.Test.YtbfkhnaknbkilaaR
import Derived.Test.YtbfkhnaknbkilaaByt
namespace Go.Proofs.Ytbfkhnaknbkilaa.Fl
open Go Go.Ev

abbrev Pg := List UInt8
/-- The part of a mask for a byte. -/
def sel (torn i : Nat) : UInt8 := UInt8.ofNat (torn / 256 ^ (i % 8))
/-- A byte whose programming was interrupted. -/
def clr (o d m : UInt8) : UInt8 := o &&& ~~~((o &&& ~~~d) &&& m)
def progT (torn : Nat) (o d : Pg) : Pg := (List.range 64).map fun i => clr (o.getD i 0) (d.getD i 0) (sel torn i)
def eraT (mask : Nat) (o : Pg) : Pg := (List.range 64).map fun i => o.getD i 0 ||| sel mask i
def fits (o d : Pg) : Bool := (List.range 64).all fun i => (d.getD i 0 &&& ~~~(o.getD i 0)) == 0
def full : Nat := 18446744073709551615

/-- What a flash holds. -/
structure Fs where
  nb : Nat
  np : Nat
  en : Nat
  pg : List (List Pg)
  er : List Nat
  off : Bool
  cut : Bool
  left : Int
  torn : Nat

def isB (s : Fs) (b : Int) : Bool := decide (0 ≤ b) && decide (b < s.nb)
def isP (s : Fs) (b p : Int) : Bool := isB s b && (decide (0 ≤ p) && decide (p < s.np))
def page (s : Fs) (b p : Nat) : Pg := (s.pg.getD b []).getD p []
def setP (s : Fs) (b p : Nat) (d : Pg) : Fs := { s with pg := s.pg.set b ((s.pg.getD b []).set p d) }
def rd (s : Fs) (b p : Int) : Pg × Int :=
  if isP s b p = false then ([], 1) else if s.off then ([], 16) else (page s b.toNat p.toNat, 0)
/-- Whether the next operation is interrupted. -/
def intr (s : Fs) : Fs × Bool :=
  if s.cut = false then (s, false) else if 0 < s.left then ({ s with left := s.left - 1 }, false) else ({ s with off := true, cut := false }, true)
def prog (s : Fs) (b p : Int) (d : Pg) : Fs × Int :=
  if isP s b p = false ∨ d.length ≠ 64 then (s, 1) else if s.off then (s, 16)
  else if fits (page s b.toNat p.toNat) d = false then (s, 9)
  else if (intr s).2 then (setP (intr s).1 b.toNat p.toNat (progT s.torn (page s b.toNat p.toNat) d), 16)
  else (setP (intr s).1 b.toNat p.toNat d, 0)
def eraB (s : Fs) (b mask : Nat) : Fs := { s with pg := s.pg.set b ((s.pg.getD b []).map (eraT mask)) }
def era (s : Fs) (b : Int) : Fs × Int :=
  if isB s b = false then (s, 1) else if s.off then (s, 16)
  else if s.en ≤ s.er.getD b.toNat 0 then (s, 15)
  else if (intr { s with er := s.er.set b.toNat (s.er.getD b.toNat 0 + 1) }).2 then (eraB (intr { s with er := s.er.set b.toNat (s.er.getD b.toNat 0 + 1) }).1 b.toNat s.torn, 16)
  else (eraB (intr { s with er := s.er.set b.toNat (s.er.getD b.toNat 0 + 1) }).1 b.toNat full, 0)
def eras (s : Fs) (b : Int) : Int := if isB s b then (s.er.getD b.toNat 0 : Int) else 0
def cutA (s : Fs) (n : Int) (t : Nat) : Fs := { s with cut := decide (n ≥ 0), left := n, torn := t }
def pOff (s : Fs) : Fs × Int := if s.off then (s, 9) else ({ s with off := true, cut := false }, 0)
def pOn (s : Fs) : Fs × Int := if s.off then ({ s with off := false }, 0) else (s, 9)
def ff : Pg := List.replicate 64 255
def new (nb np en : Nat) : Fs := ⟨nb, np, en, List.replicate nb (List.replicate np ff), List.replicate nb 0, false, false, 0, 0⟩

/-- A flash of a small shape. -/
structure Ok (s : Fs) : Prop where
  b1 : 1 ≤ s.nb
  b2 : s.nb ≤ 32
  p1 : 1 ≤ s.np
  p2 : s.np ≤ 32
  e2 : s.en ≤ 1048576
  lp : s.pg.length = s.nb
  lr : ∀ r ∈ s.pg, r.length = s.np
  l64 : ∀ r ∈ s.pg, ∀ q ∈ r, q.length = 64
  le : s.er.length = s.nb
  er : ∀ x ∈ s.er, x ≤ s.en
  lf : s.left ≤ 9223372036854775807
  tn : s.torn < 18446744073709551616

theorem progT_length (t : Nat) (o d : Pg) : (progT t o d).length = 64 := by simp [progT]
theorem eraT_length (m : Nat) (o : Pg) : (eraT m o).length = 64 := by simp [eraT]

theorem Ok.row {s : Fs} (h : Ok s) {b : Nat} (hb : b < s.nb) : s.pg.getD b [] ∈ s.pg := by
  rw [List.getD_eq_getElem?_getD, List.getElem?_eq_getElem (by rw [h.lp]; exact hb)]
  exact List.getElem_mem _
theorem Ok.rowl {s : Fs} (h : Ok s) {b : Nat} (hb : b < s.nb) : (s.pg.getD b []).length = s.np := h.lr _ (h.row hb)
theorem Ok.pagel {s : Fs} (h : Ok s) {b p : Nat} (hb : b < s.nb) (hp : p < s.np) : (page s b p).length = 64 := by
  have hr := h.rowl hb
  have hm := h.row hb
  unfold page
  generalize s.pg.getD b [] = r at *
  refine h.l64 _ hm _ ?_
  rw [List.getD_eq_getElem?_getD, List.getElem?_eq_getElem (by rw [hr]; exact hp)]
  exact List.getElem_mem _
theorem Ok.rows {s : Fs} (h : Ok s) {b : Nat} (hb : b < s.nb) {r : List Pg} (hr : r.length = s.np) (h64 : ∀ q ∈ r, q.length = 64) : Ok { s with pg := s.pg.set b r } := by
  refine ⟨h.b1, h.b2, h.p1, h.p2, h.e2, by simp [h.lp], fun x hx => ?_, fun x hx => ?_, h.le, h.er, h.lf, h.tn⟩
  · rcases List.mem_or_eq_of_mem_set hx with h1 | rfl
    · exact h.lr x h1
    · exact hr
  · rcases List.mem_or_eq_of_mem_set hx with h1 | rfl
    · exact h.l64 x h1
    · exact h64
theorem Ok.setP {s : Fs} (h : Ok s) {b p : Nat} (hb : b < s.nb) {d : Pg} (hd : d.length = 64) : Ok (setP s b p d) := by
  refine h.rows hb (by rw [List.length_set]; exact h.rowl hb) fun q hq => ?_
  rcases List.mem_or_eq_of_mem_set hq with h1 | rfl
  · exact h.l64 _ (h.row hb) q h1
  · exact hd
theorem Ok.eraB {s : Fs} (h : Ok s) {b : Nat} (hb : b < s.nb) (m : Nat) : Ok (eraB s b m) := by
  refine h.rows hb (by rw [List.length_map]; exact h.rowl hb) fun q hq => ?_
  simp only [List.mem_map] at hq
  obtain ⟨x, _, rfl⟩ := hq
  exact eraT_length m x
theorem Ok.intr {s : Fs} (h : Ok s) : Ok (intr s).1 := by
  unfold Fl.intr
  split
  · exact h
  split
  · exact ⟨h.b1, h.b2, h.p1, h.p2, h.e2, h.lp, h.lr, h.l64, h.le, h.er, by have := h.lf; show s.left - 1 ≤ _; omega, h.tn⟩
  · exact ⟨h.b1, h.b2, h.p1, h.p2, h.e2, h.lp, h.lr, h.l64, h.le, h.er, h.lf, h.tn⟩
theorem Ok.more {s : Fs} (h : Ok s) {b : Nat} (hb : s.er.getD b 0 < s.en) : Ok { s with er := s.er.set b (s.er.getD b 0 + 1) } := by
  refine ⟨h.b1, h.b2, h.p1, h.p2, h.e2, h.lp, h.lr, h.l64, by simp [h.le], fun x hx => ?_, h.lf, h.tn⟩
  rcases List.mem_or_eq_of_mem_set hx with h1 | rfl
  · exact h.er x h1
  · show s.er.getD b 0 + 1 ≤ s.en; omega
theorem isB_lt {s : Fs} {b : Int} (h : isB s b = true) : 0 ≤ b ∧ b.toNat < s.nb := by
  unfold isB at h
  simp only [Bool.and_eq_true, decide_eq_true_eq] at h
  omega
theorem isP_lt {s : Fs} {b p : Int} (h : isP s b p = true) : 0 ≤ b ∧ b.toNat < s.nb ∧ 0 ≤ p ∧ p.toNat < s.np := by
  unfold isP at h
  simp only [Bool.and_eq_true, decide_eq_true_eq] at h
  have := isB_lt h.1
  omega
theorem intr_nb (s : Fs) : (intr s).1.nb = s.nb ∧ (intr s).1.np = s.np ∧ (intr s).1.en = s.en ∧ (intr s).1.pg = s.pg ∧ (intr s).1.er = s.er ∧ (intr s).1.torn = s.torn := by
  unfold intr
  split
  · exact ⟨rfl, rfl, rfl, rfl, rfl, rfl⟩
  split
  · exact ⟨rfl, rfl, rfl, rfl, rfl, rfl⟩
  · exact ⟨rfl, rfl, rfl, rfl, rfl, rfl⟩
theorem Ok.prog {s : Fs} (h : Ok s) (b p : Int) (d : Pg) : Ok (prog s b p d).1 := by
  unfold Fl.prog
  split
  · exact h
  rename_i hp
  split
  · exact h
  split
  · exact h
  have hp' : isP s b p = true := by cases hc : isP s b p; exact absurd (.inl hc) hp; rfl
  have hl := isP_lt hp'
  have hd : d.length = 64 := by
    by_cases hc : d.length = 64
    · exact hc
    · exact absurd (.inr hc) hp
  split
  · exact h.intr.setP (by rw [(intr_nb s).1]; exact hl.2.1) (progT_length _ _ _)
  · exact h.intr.setP (by rw [(intr_nb s).1]; exact hl.2.1) hd
theorem Ok.era {s : Fs} (h : Ok s) (b : Int) : Ok (era s b).1 := by
  unfold Fl.era
  split
  · exact h
  rename_i hb
  split
  · exact h
  split
  · exact h
  have hb' : isB s b = true := by cases hc : isB s b; exact absurd hc hb; rfl
  have hl := isB_lt hb'
  have hm := h.more (b := b.toNat) (by omega)
  split
  · exact hm.intr.eraB (by rw [(intr_nb _).1]; exact hl.2) _
  · exact hm.intr.eraB (by rw [(intr_nb _).1]; exact hl.2) _
theorem Ok.pOff {s : Fs} (h : Ok s) : Ok (pOff s).1 := by
  unfold Fl.pOff
  split
  · exact h
  · exact ⟨h.b1, h.b2, h.p1, h.p2, h.e2, h.lp, h.lr, h.l64, h.le, h.er, h.lf, h.tn⟩
theorem Ok.pOn {s : Fs} (h : Ok s) : Ok (pOn s).1 := by
  unfold Fl.pOn
  split
  · exact ⟨h.b1, h.b2, h.p1, h.p2, h.e2, h.lp, h.lr, h.l64, h.le, h.er, h.lf, h.tn⟩
  · exact h
theorem Ok.cutA {s : Fs} (h : Ok s) {n : Int} {t : Nat} (hn : n ≤ 9223372036854775807) (ht : t < 18446744073709551616) : Ok (cutA s n t) :=
  ⟨h.b1, h.b2, h.p1, h.p2, h.e2, h.lp, h.lr, h.l64, h.le, h.er, hn, ht⟩
theorem ok_new {nb np en : Nat} (h1 : 1 ≤ nb) (h2 : nb ≤ 32) (h3 : 1 ≤ np) (h4 : np ≤ 32) (h5 : en ≤ 1048576) : Ok (new nb np en) := by
  refine ⟨h1, h2, h3, h4, h5, by simp [new], fun r hr => ?_, fun r hr q hq => ?_, by simp [new], fun x hx => ?_, by simp [new], by simp [new]⟩
  · simp only [new, List.mem_replicate] at hr
    rw [hr.2, List.length_replicate]; rfl
  · simp only [new, List.mem_replicate] at hr
    rw [hr.2] at hq
    simp only [List.mem_replicate] at hq
    rw [hq.2]; simp [ff]
  · simp only [new, List.mem_replicate] at hx
    rw [hx.2]; exact Nat.zero_le _

/- The cells. -/
def strs (l : List Pg) : List Value := l.map fun d => .string (mkS d)
theorem strs_length (l : List Pg) : (strs l).length = l.length := by simp [strs]
theorem strs_get (l : List Pg) (i : Nat) : (strs l)[i]? = (l[i]?).map fun d => Value.string (mkS d) := by simp [strs]
theorem strs_getD {l : List Pg} {i : Nat} (h : i < l.length) : (strs l)[i]? = some (.string (mkS (l.getD i []))) := by
  rw [strs_get, List.getD_eq_getElem?_getD, List.getElem?_eq_getElem h]; rfl
theorem strs_set (l : List Pg) (i : Nat) (d : Pg) : (strs l).set i (.string (mkS d)) = strs (l.set i d) := by simp [strs, List.map_set]
theorem strs_one (l : List Pg) : ∀ v ∈ strs l, one v = true := by
  intro v hv
  simp only [strs, List.mem_map] at hv
  obtain ⟨b, _, rfl⟩ := hv
  rfl
theorem by_set (l : List UInt8) (i : Nat) (x : UInt8) : (by_ l).set i (.int .u8 (x.toNat : Int)) = by_ (l.set i x) := by simp [by_, List.map_set]
theorem wrap_byte (n : Nat) : IntKind.wrap .u8 (n : Int) = ((UInt8.ofNat n).toNat : Int) := by
  rw [wrap_u8', UInt8.toNat_ofNat']; omega
theorem fdiv_n (n m : Nat) : Int.fdiv (n : Int) (m : Int) = ((n / m : Nat) : Int) := by
  rw [Int.fdiv_eq_ediv_of_nonneg _ (by omega)]; rfl
theorem fdiv_byte (x j : Nat) : Int.fdiv (x : Int) (2 ^ (8 * (j : Int)).toNat) = ((x / 256 ^ j : Nat) : Int) := by
  have h1 : (8 * (j : Int)).toNat = 8 * j := by omega
  have h2 : ((2 : Int) ^ (8 * j)) = ((256 ^ j : Nat) : Int) := by
    rw [show (256 : Nat) = 2 ^ 8 from rfl, ← Nat.pow_mul]
    push_cast
    rfl
  rw [h1, h2]
  exact fdiv_n _ _
/-- One block: where its pages lie, how often it was erased. -/
def brow (np : Nat) (x : Nat × Nat) : List Value := [.slice (some ⟨x.1, 0, none⟩) np np, .int .i64 (x.2 : Int)]
end Go.Proofs.Ytbfkhnaknbkilaa.Fl
