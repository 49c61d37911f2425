/-
  A block device: the statements' helpers. No condition beyond those stated.
-/
import Derived.Test.YtgnmbenhpjkbfaaBdR
import Derived.Test.YtgnmbenhpjkbfaaOpn
import Derived.Test.YtgnmbenhpjkbfaaMod
namespace Go.Proofs.Ytgnmbenhpjkbfaa.Bd
open Go Go.Ev Go.Proofs Go.ChangeShapes Go.WideShapes Go.ChangeAt Go.RowKit

theorem wrap_byte (n : Nat) : IntKind.wrap .u8 (n : Int) = ((UInt8.ofNat n).toNat : Int) := by
  rw [wrap_u8', UInt8.toNat_ofNat']; omega
theorem fdiv_n (n m : Nat) : Int.fdiv (n : Int) (m : Int) = ((n / m : Nat) : Int) := by
  rw [Int.fdiv_eq_ediv_of_nonneg _ (by omega)]; rfl
theorem fdiv_byte (x j : Nat) : Int.fdiv (x : Int) (2 ^ (8 * (j : Int)).toNat) = ((x / 256 ^ j : Nat) : Int) := by
  have h1 : (8 * (j : Int)).toNat = 8 * j := by omega
  have h2 : ((2 : Int) ^ (8 * j)) = ((256 ^ j : Nat) : Int) := by
    rw [show (256 : Nat) = 2 ^ 8 from rfl, ← Nat.pow_mul]
    push_cast
    rfl
  rw [h1, h2]
  exact fdiv_n _ _
theorem by_set (l : List UInt8) (i : Nat) (x : UInt8) : (by_ l).set i (.int .u8 (x.toNat : Int)) = by_ (l.set i x) := by simp [by_, List.map_set]

/-- The first j bytes of a number, then zeros. -/
def low (m j : Nat) : List UInt8 := (List.range 64).map fun i => if i < j then UInt8.ofNat (m / 256 ^ i) else 0
theorem low_length (m j : Nat) : (low m j).length = 64 := by simp [low]
theorem low_zero (m : Nat) : low m 0 = List.replicate 64 0 := by
  unfold low
  simp only [Nat.not_lt_zero, if_false]
  decide +kernel
theorem low_succ (m j : Nat) : low m (j + 1) = (low m j).set j (UInt8.ofNat (m / 256 ^ j)) := by
  apply List.ext_getElem
  · simp [low]
  · intro i h1 h2
    rw [List.getElem_set]
    simp only [low, List.getElem_map, List.getElem_range]
    by_cases h : j = i
    · subst h; rw [if_pos (by omega), if_pos rfl]
    · rw [if_neg h]
      by_cases h' : i < j
      · rw [if_pos (by omega), if_pos h']
      · rw [if_neg (by omega), if_neg h']
/-- The sector that k determines. -/
def sec (k : Int) : Sec := (low (modv k 1099511627776).toNat 8).set 63 1
theorem sec_length (k : Int) : (sec k).length = 64 := by simp [sec, low_length]

/-- A call that came in. -/
structure Cl where
  kind : Int
  sect : Int
  data : Int
  ka : Option Addr
  kn : Nat
  kc : Nat
  kl : List Bool
  raw : Bool
instance : Inhabited Cl := ⟨⟨0, 0, 0, none, 0, 0, [], false⟩⟩
def Cl.cells (c : Cl) : List Value := [.int .i64 c.kind, .int .i64 c.sect, .int .i64 c.data, .slice c.ka c.kn c.kc, .bool c.raw]
/-- A list of bools that came in. -/
structure KOk (w : World) (ka : Option Addr) (kn : Nat) (kl : List Bool) : Prop where
  r : Reads w ka (bls kl)
  n : kl.length = kn
  le : kn ≤ 140737488355328
  lt : ∀ q : Addr, ka = some q → kl ≠ [] → q.block < w.heap.size
theorem KOk.ext {w w' : World} {ka : Option Addr} {kn : Nat} {kl : List Bool} (h : KOk w ka kn kl) (e : Ext w w' (fun _ => False)) : KOk w' ka kn kl :=
  ⟨h.r.ext e (fun _ _ _ h => h), h.n, h.le, fun q hq hne => Nat.lt_of_lt_of_le (h.lt q hq hne) e.size⟩
/-- A list of calls that came in. -/
structure Cin (w : World) (l : Option Addr) (n : Nat) (cs : List Cl) : Prop where
  r : Reads w l (cs.flatMap Cl.cells)
  n : cs.length = n
  k : ∀ c ∈ cs, KOk w c.ka c.kn c.kl
theorem Cin.ext {w w' : World} {l : Option Addr} {n : Nat} {cs : List Cl} (h : Cin w l n cs) (e : Ext w w' (fun _ => False)) : Cin w' l n cs :=
  ⟨h.r.ext e (fun _ _ _ h => h), h.n, fun c hc => (h.k c hc).ext e⟩
theorem Cin.ptr {w : World} {l : Option Addr} {n : Nat} {cs : List Cl} (h : Cin w l n cs) (hn : 0 < n) : ∃ p, l = some p :=
  h.r.some_ (by rw [flat_length (f := Cl.cells) (m := 5) (fun _ => rfl), h.n]; omega)

section
variable {H : Type} {enc : TypeId × Value → H}
theorem trod_bools {W : World} {n : Nat} {cs : List Value} {x : DataW H × List MemPlace} (h : DataW.trod enc Try.prog W 0 (fun _ => true) true n 31 cs = some x) (hw : Light Try.prog 31 x.1) :
    ∃ (ka : Option Addr) (kn kc : Nat) (kl : List Bool), cs = [.slice ka kn kc] ∧ KOk W ka kn kl := by
  rcases trod_slz (e := 4) (by kernel_rfl) h hw with hc | ⟨a, len, cap, hc, _, _, hb, hi⟩
  · exact ⟨none, 0, 0, [], hc, .inl rfl, rfl, by omega, fun q hq => by cases hq⟩
  · have hc1 : Try.prog.cellsOf 4 = 1 := by kernel_rfl
    have hb1 : Try.prog.bytesOf 4 = 1 := by kernel_rfl
    rw [hc1] at hi
    rw [hb1, Nat.mul_one] at hb
    obtain ⟨l, hl, hr, _, hlt⟩ := reads_rows (W := W) (a := a) (len := len) (m := 1) (f := fun b : Bool => [Value.bool b]) (R := fun _ => True) (by omega) (fun _ => rfl) (fun i hi' => by
      obtain ⟨cs', n', y, hcl, hat, hy, _⟩ := hi i hi'
      obtain ⟨b, hb, _⟩ := DataW.trod_bool (by kernel_rfl) hy
      refine ⟨b, trivial, fun j hj => ?_⟩
      rw [hat j hj, hb])
    refine ⟨some a, len, cap, l, hc, ?_, hl, ?_, fun q hq hne => ?_⟩
    · rw [show bls l = l.flatMap fun b : Bool => [Value.bool b] by unfold bls; exact List.map_eq_flatMap]
      exact hr
    · have := reachBytes_lt
      omega
    · cases hq
      exact hlt hne
theorem open_bools {W : World} {v : Value} {d : DataW H} {p : List MemPlace} {r : Reach} {b0 : Nat} (hv : Value.okWide Try.prog W r b0 31 v)
    (h : DataW.Trod enc Try.prog W 0 (fun _ => true) true 31 v d p) (hw : Light Try.prog 31 d) : ∃ (ka : Option Addr) (kn kc : Nat) (kl : List Bool), v = .slice ka kn kc ∧ KOk W ka kn kl := by
  obtain ⟨n, h⟩ := trod_of h
  obtain ⟨a0, l0, c0, rfl⟩ := okWide_slice (t := 31) (e := 4) (by kernel_rfl) hv
  obtain ⟨ka, kn, kc, kl, hc, hk⟩ := trod_bools h hw
  exact ⟨ka, kn, kc, kl, by simpa [Value.cells] using hc, hk⟩
theorem open_calls {W : World} {v : Value} {d : DataW H} {p : List MemPlace} {r : Reach} {b0 : Nat} (hv : Value.okWide Try.prog W r b0 30 v)
    (h : DataW.Trod enc Try.prog W 0 (fun _ => true) true 30 v d p) (hw : Light Try.prog 30 d) : ∃ (l : Option Addr) (n c : Nat) (cs : List Cl), v = .slice l n c ∧ Cin W l n cs := by
  obtain ⟨n, h⟩ := trod_of h
  obtain ⟨a0, l0, c0, rfl⟩ := okWide_slice (t := 30) (e := 37) (by kernel_rfl) hv
  rcases trod_slz (e := 37) (by kernel_rfl) h hw with hc | ⟨a, len, cap, hc, _, _, _, hi⟩
  · exact ⟨none, 0, 0, [], by simpa [Value.cells] using hc, .inl rfl, rfl, by simp⟩
  · have hc5 : Try.prog.cellsOf 37 = 5 := by kernel_rfl
    rw [hc5] at hi
    obtain ⟨l, hl, hr, hk, _⟩ := reads_rows (W := W) (a := a) (len := len) (m := 5) (f := Cl.cells) (R := fun c => KOk W c.ka c.kn c.kl) (by omega) (fun _ => rfl) (fun i hi' => by
      obtain ⟨cs', n', y, hcl, hat, hy, hlight⟩ := hi i hi'
      obtain ⟨xs, m, _, hyy, _, hxl, hf⟩ := DataW.trod_struct (fs := (structFs Try.prog 37)) (by kernel_rfl) hy
      have hs5 : (structFs Try.prog 37).size = 5 := by kernel_rfl
      rw [hs5] at hxl
      match xs, hxl with
      | [x0, x1, x2, x3, x4], _ =>
        obtain ⟨n0, h0, _, w0⟩ := DataW.trod_int (k := .i64) (by kernel_rfl) (hf 0 _ rfl)
        obtain ⟨n1, h1, _, w1⟩ := DataW.trod_int (k := .i64) (by kernel_rfl) (hf 1 _ rfl)
        obtain ⟨n2, h2, _, w2⟩ := DataW.trod_int (k := .i64) (by kernel_rfl) (hf 2 _ rfl)
        have hl3 : Light Try.prog 31 x3.1 := light_part (t := 37) (parts := [x0, x1, x2, x3, x4].map (·.1)) 3 (by rw [hyy] at hlight; exact hlight) rfl
        obtain ⟨ka, kn, kc, kl, h3, hk⟩ := trod_bools (hf 3 _ rfl) hl3
        obtain ⟨b4, h4, _⟩ := DataW.trod_bool (by kernel_rfl) (hf 4 _ rfl)
        refine ⟨⟨n0, n1, n2, ka, kn, kc, kl, b4⟩, hk, fun j hj => ?_⟩
        rw [hat j hj]
        have e0 : (cs'.drop 0).take 1 = [.int .i64 n0] := h0
        have e1 : (cs'.drop 1).take 1 = [.int .i64 n1] := h1
        have e2 : (cs'.drop 2).take 1 = [.int .i64 n2] := h2
        have e3 : (cs'.drop 3).take 1 = [.slice ka kn kc] := h3
        have e4 : (cs'.drop 4).take 1 = [.bool b4] := h4
        match cs', hcl with
        | [c0, c1, c2, c3, c4], _ =>
          simp at e0 e1 e2 e3 e4
          subst e0 e1 e2 e3 e4
          rfl)
    exact ⟨some a, len, cap, l, by simpa [Value.cells] using hc, hr, hl, hk⟩
end

section
variable {w : World} {Q : Value → World → Prop}

theorem sector_c {k : Int} (hQ : ∀ w', Ext w w' (fun _ => False) → Q (.string (mkS (sec k))) w') : CallE Try.prog 17 #[.int .i64 k] w Q := by
  apply C.law32_sector
  unfold W.law32_sector
  have hm := modv_bd (v := k) (n := 1099511627776) (by omega)
  obtain ⟨m, hm'⟩ := nat_of hm.1
  have hsec : sec k = (low m 8).set 63 1 := by unfold sec; rw [hm', Int.toNat_natCast]
  rw [hsec] at hQ
  refine mkB (n := 64) 5 (by omega) fun b w1 hb a1 e1 z1 => ?_
  refine LoopW.nat 8 (fun j s w' => s = ((j : Int), ()) ∧ At w' b (by_ (low m j)) 5 ∧ Ext w w' (fun _ => False)) ⟨rfl, by rw [low_zero]; exact a1, e1⟩ ?_
  rintro j s w2 next hj ⟨rfl, a2, e2⟩ hnext
  dsimp only
  have hsz := e2.size
  by_cases hlt : j < 8
  case neg =>
    rw [decide_eq_false (by omega), br_false]
    obtain rfl : j = 8 := by omega
    unfold W.law32_sector_k6
    refine ixb 63 1 5 (by omega) ?_
    refine st_i a2 (by rw [by_length, low_length]; omega) fun w3 a3 e3 z3 => ?_
    rw [show (Value.int .u8 1) = .int .u8 (((1 : UInt8).toNat : Nat) : Int) from rfl, by_set] at a3
    refine bsT a3 (by rw [List.length_set, low_length]) ?_
    exact hQ w3 (e2.trans e3 (fun _ _ h => h) (fun b' hb' h => by omega))
  rw [decide_eq_true (by omega), br_true]
  refine mod_c (by omega) (by omega) (fi ?_)
  rw [hm', wrap_i64 (x := 8 * (j : Int)) (by omega) (by omega), wrap_u64 (by omega) (by omega)]
  refine qI (shr_i (by omega) (by show 8 * (j : Int) ≤ ((64 : Nat) : Int); omega)) ?_
  refine ixb j 1 5 (by omega) ?_
  rw [fdiv_byte, wrap_byte, inc_nat (by omega)]
  refine st_i a2 (by rw [by_length, low_length]; omega) fun w3 a3 e3 z3 => ?_
  rw [by_set, Nat.mul_one, ← low_succ] at a3
  exact hnext hlt _ _ ⟨rfl, a3, e2.trans e3 (fun _ _ h => h) (fun b' hb' h => by omega)⟩

theorem equal_c {a b : Option Addr} {n n' c c' : Nat} {la lb : List Sec} (ha : Reads w a (strs la)) (hb : Reads w b (strs lb)) (hna : la.length = n) (hnb : lb.length = n') (hn : n ≤ 1000000) (hQ : ∀ w', Ext w w' (fun _ => False) → Q (.bool (decide (la = lb))) w') :
    CallE Try.prog 18 #[.slice a n c, .slice b n' c'] w Q := by
  apply C.help_Equal_string_
  unfold W.help_Equal_string_
  by_cases hne : n = n'
  case neg =>
    rw [show (((n : Nat) : Int) != ((n' : Nat) : Int)) = true by rw [bne_iff_ne]; omega, br_true]
    have := hQ w (Ext.refl _ _)
    rw [decide_eq_false (by intro h; rw [h] at hna; omega)] at this
    exact this
  rw [show (((n : Nat) : Int) != ((n' : Nat) : Int)) = false by rw [bne_eq_false_iff_eq]; omega, br_false]
  subst hne
  refine LoopW.nat n (fun i s w' => s = ((i : Int), ()) ∧ la.take i = lb.take i ∧ Ext w w' (fun _ => False)) ⟨rfl, by simp, Ext.refl _ _⟩ ?_
  rintro i s w1 next hi ⟨rfl, heq, e1⟩ hnext
  dsimp only
  by_cases hlt : i < n
  case neg =>
    rw [decide_eq_false (by omega), br_false]
    have h1 : la = lb := by
      rw [List.take_of_length_le (by omega), List.take_of_length_le (by omega)] at heq
      exact heq
    have := hQ w1 e1
    rw [decide_eq_true h1] at this
    exact this
  rw [decide_eq_true (by omega), br_true]
  show dr w1 _
  unfold dr
  obtain ⟨p, rfl⟩ := ha.some_ (by rw [strs_length]; omega)
  obtain ⟨q, rfl⟩ := hb.some_ (by rw [strs_length]; omega)
  have ha1 := ha.ext e1.drew_ (fun _ _ _ h => h)
  have hb1 := hb.ext e1.drew_ (fun _ _ _ h => h)
  refine ixs i 1 9 (by omega) ?_
  refine rdL ha1 (by rw [Nat.mul_one]; exact strs_getD (by omega)) (ft ?_)
  refine ixs i 1 9 (by omega) ?_
  refine rdL hb1 (by rw [Nat.mul_one]; exact strs_getD (by omega)) (ft ?_)
  refine qB s_ne ?_
  by_cases hv : la.getD i [] = lb.getD i []
  · rw [decide_eq_true hv, Bool.not_true, br_false, inc_nat (by omega)]
    refine hnext hlt _ _ ⟨rfl, ?_, e1.drew_⟩
    rw [List.take_succ_eq_append_getElem (by omega), List.take_succ_eq_append_getElem (by omega), heq]
    rw [List.getD_eq_getElem?_getD, List.getD_eq_getElem?_getD, List.getElem?_eq_getElem (by omega), List.getElem?_eq_getElem (by omega)] at hv
    simp only [Option.getD_some] at hv
    rw [hv]
  · rw [decide_eq_false hv, Bool.not_false, br_true]
    have := hQ (drew w1) e1.drew_
    rw [decide_eq_false (by intro h; rw [h] at hv; exact hv rfl)] at this
    exact this
end

/-- A disk of a law's own. -/
structure One (U w : World) (p : Nat) (s : St) (F : Nat → Prop) : Prop where
  d : Dk w p s F
  f : ∀ b, F b → U.heap.size ≤ b ∧ b < w.heap.size
  e : Ext U w (fun _ => False)
theorem Dk.tight {w : World} {p : Nat} {s : St} {F : Nat → Prop} (h : Dk w p s F) : Dk w p s (fun b => F b ∧ b < w.heap.size) := by
  obtain ⟨db, vb, vc, ca, cc, ka, kn, kc, lf, h, f1, f2, f3, f4, f5⟩ := h
  exact ⟨db, vb, vc, ca, cc, ka, kn, kc, lf, h, ⟨f1, h.d.lt⟩, ⟨f2, h.dur.lt⟩, ⟨f3, h.vis.lt⟩, fun b hb => ⟨f4 b hb, by subst hb; exact h.cac.lt⟩, fun q hq => ⟨f5 q hq, h.lk q hq⟩⟩
theorem Rk.tight {w : World} {p : Nat} {s : St} {F : Nat → Prop} (h : Rk w p s F) : Rk w p s (fun b => F b ∧ b < w.heap.size) := by
  obtain ⟨sb, sc, ca, cc, ka, kn, kc, h, f1, f2, f4, f5⟩ := h
  exact ⟨sb, sc, ca, cc, ka, kn, kc, h, ⟨f1, h.d.lt⟩, ⟨f2, h.dur.lt⟩, fun b hb => ⟨f4 b hb, by subst hb; exact h.cac.lt⟩, fun q hq => ⟨f5 q hq, h.lk q hq⟩⟩
theorem One.new {U w w' : World} {p : Nat} {s : St} (h : Dk w' p s (fun b => w.heap.size ≤ b)) (e0 : Ext U w (fun _ => False)) (e : Ext w w' (fun _ => False)) : One U w' p s (fun b => w.heap.size ≤ b ∧ b < w'.heap.size) :=
  ⟨h.tight, fun b hb => ⟨by have := e0.size; omega, hb.2⟩, e0.tr e⟩
theorem One.step {U w w' : World} {p : Nat} {s s' : St} {F F' : Nat → Prop} (h : One U w p s F) (hd : Dk w' p s' F') (he : Ext w w' F) (hF : ∀ b, F' b → F b ∨ w.heap.size ≤ b) : One U w' p s' (fun b => F' b ∧ b < w'.heap.size) :=
  ⟨hd.tight, fun b hb => ⟨by rcases hF b hb.1 with hx | hx; exact (h.f b hx).1; have := h.e.size; omega, hb.2⟩, h.e.trans he (fun _ _ h => h) (fun b hb hx => by have := (h.f b hx).1; omega)⟩
theorem One.stay {U w w' : World} {p : Nat} {s s' : St} {F : Nat → Prop} (h : One U w p s F) (hd : Dk w' p s' F) (he : Ext w w' F) : One U w' p s' F :=
  ⟨hd, fun b hb => ⟨(h.f b hb).1, Nat.lt_of_lt_of_le (h.f b hb).2 he.size⟩, h.e.trans he (fun _ _ h => h) (fun b hb hx => by have := (h.f b hx).1; omega)⟩
theorem One.same {U w w' : World} {p : Nat} {s : St} {F : Nat → Prop} (h : One U w p s F) (e : Ext w w' (fun _ => False)) : One U w' p s F :=
  ⟨h.d.ext e (fun _ _ h => h), fun b hb => ⟨(h.f b hb).1, Nat.lt_of_lt_of_le (h.f b hb).2 e.size⟩, h.e.tr e⟩
theorem KOk.apart {U w : World} {p : Nat} {s : St} {F : Nat → Prop} {ka : Option Addr} {kn : Nat} {kl : List Bool} (hk : KOk U ka kn kl) (h : One U w p s F) : ∀ q : Addr, ka = some q → kl ≠ [] → ¬ F q.block := by
  intro q hq hne hF
  have h1 := (h.f _ hF).1
  have h2 := hk.lt q hq hne
  omega
end Go.Proofs.Ytgnmbenhpjkbfaa.Bd
