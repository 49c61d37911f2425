/-
  A flash memory: the statements' helpers. No condition beyond those stated.
-/
import Derived.Test.YtbfkhnaknbkilaaFlE
import Derived.Test.YtbfkhnaknbkilaaOpn
import Derived.Test.YtbfkhnaknbkilaaMod
namespace Go.Proofs.Ytbfkhnaknbkilaa.Fl
open Go Go.Ev Go.Proofs Go.ChangeShapes Go.WideShapes Go.ChangeAt Go.RowKit

/-- A call. -/
structure Cl where
  kind : Int
  blk : Int
  pag : Int
  data : Nat
  torn : Nat
  and_ : Bool
  raw : Bool
instance : Inhabited Cl := ⟨⟨0, 0, 0, 0, 0, false, false⟩⟩
def Cl.cells (c : Cl) : List Value := [.int .i64 c.kind, .int .i64 c.blk, .int .i64 c.pag, .int .u64 (c.data : Int), .int .u64 (c.torn : Int), .bool c.and_, .bool c.raw]
theorem Cl.one_ (c : Cl) : ∀ v ∈ c.cells, one v = true := by
  intro v hv
  simp only [Cl.cells, List.mem_cons, List.not_mem_nil, or_false] at hv
  rcases hv with rfl | rfl | rfl | rfl | rfl | rfl | rfl <;> rfl
/-- A list of calls that came in. -/
structure Cin (w : World) (l : Option Addr) (n : Nat) (cs : List Cl) : Prop where
  r : Reads w l (cs.flatMap Cl.cells)
  n : cs.length = n
  t : ∀ c ∈ cs, c.torn < 18446744073709551616
theorem Cin.ext {w w' : World} {l : Option Addr} {n : Nat} {cs : List Cl} (h : Cin w l n cs) (e : Ext w w' (fun _ => False)) : Cin w' l n cs :=
  ⟨h.r.ext e (fun _ _ _ h => h), h.n, h.t⟩
theorem Cin.ptr {w : World} {l : Option Addr} {n : Nat} {cs : List Cl} (h : Cin w l n cs) (hn : 0 < n) : ∃ p, l = some p :=
  h.r.some_ (by rw [flat_length (f := Cl.cells) (m := 7) (fun _ => rfl), h.n]; omega)

section
variable {H : Type} {enc : TypeId × Value → H}
theorem trod_call {W : World} {n : Nat} {cs : List Value} {x : DataW H × List MemPlace} (h : DataW.trod enc Try.prog W 0 (fun _ => true) true n 39 cs = some x) (hcl : cs.length = 7) : ∃ c : Cl, cs = c.cells ∧ c.torn < 18446744073709551616 := by
  obtain ⟨xs, m, _, hyy, _, hxl, hf⟩ := DataW.trod_struct (fs := structFs Try.prog 39) (by kernel_rfl) h
  have hs7 : (structFs Try.prog 39).size = 7 := by kernel_rfl
  rw [hs7] at hxl
  match xs, hxl with
  | [x0, x1, x2, x3, x4, x5, x6], _ =>
    obtain ⟨n0, h0, _, w0⟩ := DataW.trod_int (k := .i64) (by kernel_rfl) (hf 0 _ rfl)
    obtain ⟨n1, h1, _, w1⟩ := DataW.trod_int (k := .i64) (by kernel_rfl) (hf 1 _ rfl)
    obtain ⟨n2, h2, _, w2⟩ := DataW.trod_int (k := .i64) (by kernel_rfl) (hf 2 _ rfl)
    obtain ⟨n3, h3, _, w3⟩ := DataW.trod_int (k := .u64) (by kernel_rfl) (hf 3 _ rfl)
    obtain ⟨n4, h4, _, w4⟩ := DataW.trod_int (k := .u64) (by kernel_rfl) (hf 4 _ rfl)
    obtain ⟨b5, h5, _⟩ := DataW.trod_bool (by kernel_rfl) (hf 5 _ rfl)
    obtain ⟨b6, h6, _⟩ := DataW.trod_bool (by kernel_rfl) (hf 6 _ rfl)
    have e0 : (cs.drop 0).take 1 = [.int .i64 n0] := h0
    have e1 : (cs.drop 1).take 1 = [.int .i64 n1] := h1
    have e2 : (cs.drop 2).take 1 = [.int .i64 n2] := h2
    have e3 : (cs.drop 3).take 1 = [.int .u64 n3] := h3
    have e4 : (cs.drop 4).take 1 = [.int .u64 n4] := h4
    have e5 : (cs.drop 5).take 1 = [.bool b5] := h5
    have e6 : (cs.drop 6).take 1 = [.bool b6] := h6
    obtain ⟨d3, hd3⟩ := nat_of (int_of_wf w3).1
    obtain ⟨d4, hd4⟩ := nat_of (int_of_wf w4).1
    have ht := (int_of_wf w4).2
    have ht' : n4 ≤ 18446744073709551615 := ht
    subst hd3 hd4
    refine ⟨⟨n0, n1, n2, d3, d4, b5, b6⟩, ?_, by show d4 < _; omega⟩
    match cs, hcl with
    | [c0, c1, c2, c3, c4, c5, c6], _ =>
      simp at e0 e1 e2 e3 e4 e5 e6
      subst e0 e1 e2 e3 e4 e5 e6
      rfl
theorem open_calls {W : World} {v : Value} {d : DataW H} {p : List MemPlace} {r : Reach} {b0 : Nat} (hv : Value.okWide Try.prog W r b0 36 v)
    (h : DataW.Trod enc Try.prog W 0 (fun _ => true) true 36 v d p) : ∃ (l : Option Addr) (n c : Nat) (cs : List Cl), v = .slice l n c ∧ Cin W l n cs := by
  rcases open_sl (e := 39) (by kernel_rfl) hv h with rfl | ⟨a, len, cap, rfl, _, _, hi⟩
  · exact ⟨none, 0, 0, [], rfl, .inl rfl, rfl, by simp⟩
  · have hc7 : Try.prog.cellsOf 39 = 7 := by kernel_rfl
    rw [hc7] at hi
    obtain ⟨l, hl, hr, hk, _⟩ := reads_rows (W := W) (a := a) (len := len) (m := 7) (f := Cl.cells) (R := fun c => c.torn < 18446744073709551616) (by omega) (fun _ => rfl) (fun i hi' => by
      obtain ⟨cs', n', y, hcl, hat, hy⟩ := hi i hi'
      obtain ⟨c, hc, ht⟩ := trod_call hy hcl
      exact ⟨c, ht, fun j hj => by rw [hat j hj, hc]⟩)
    exact ⟨some a, len, cap, l, rfl, hr, hl, hk⟩
theorem open_call {W : World} {v : Value} {d : DataW H} {p : List MemPlace} {r : Reach} {b0 : Nat} (hv : Value.okWide Try.prog W r b0 39 v)
    (h : DataW.Trod enc Try.prog W 0 (fun _ => true) true 39 v d p) : ∃ c : Cl, v = .agg c.cells.toArray ∧ c.torn < 18446744073709551616 := by
  obtain ⟨n, h⟩ := trod_of h
  obtain ⟨cs, rfl⟩ := okWide_agg (t := 39) (by kernel_rfl) hv
  obtain ⟨xs, m, _, _, hcl, _⟩ := DataW.trod_struct (fs := structFs Try.prog 39) (by kernel_rfl) h
  have hc7 : Try.prog.cellsOf 39 = 7 := by kernel_rfl
  rw [hc7] at hcl
  obtain ⟨c, hc, ht⟩ := trod_call h hcl
  refine ⟨c, ?_, ht⟩
  rw [← hc]
  simp [Value.cells]
theorem open_shape {W : World} {v : Value} {d : DataW H} {p : List MemPlace} {r : Reach} {b0 : Nat} (hv : Value.okWide Try.prog W r b0 23 v)
    (h : DataW.Trod enc Try.prog W 0 (fun _ => true) true 23 v d p) : ∃ x y z : Int, v = .agg #[.int .i64 x, .int .i64 y, .int .i64 z] := by
  obtain ⟨n, h⟩ := trod_of h
  obtain ⟨cs, rfl⟩ := okWide_agg (t := 23) (by kernel_rfl) hv
  obtain ⟨xs, m, _, _, hcl, hxl, hf⟩ := DataW.trod_struct (fs := structFs Try.prog 23) (by kernel_rfl) h
  have hc3 : Try.prog.cellsOf 23 = 3 := by kernel_rfl
  have hs3 : (structFs Try.prog 23).size = 3 := by kernel_rfl
  rw [hc3] at hcl
  rw [hs3] at hxl
  match xs, hxl with
  | [x0, x1, x2], _ =>
    obtain ⟨n0, h0, _, w0⟩ := DataW.trod_int (k := .i64) (by kernel_rfl) (hf 0 _ rfl)
    obtain ⟨n1, h1, _, w1⟩ := DataW.trod_int (k := .i64) (by kernel_rfl) (hf 1 _ rfl)
    obtain ⟨n2, h2, _, w2⟩ := DataW.trod_int (k := .i64) (by kernel_rfl) (hf 2 _ rfl)
    have e0 : ((Value.agg cs).cells.toList.drop 0).take 1 = [.int .i64 n0] := h0
    have e1 : ((Value.agg cs).cells.toList.drop 1).take 1 = [.int .i64 n1] := h1
    have e2 : ((Value.agg cs).cells.toList.drop 2).take 1 = [.int .i64 n2] := h2
    refine ⟨n0, n1, n2, ?_⟩
    have hcs : cs = cs.toList.toArray := by simp
    have hc : (Value.agg cs).cells.toList = cs.toList := rfl
    rw [hc] at hcl e0 e1 e2
    rw [hcs]
    clear hv h hf h0 h1 h2 hc hcs
    generalize cs.toList = l at *
    match l, hcl with
    | [c0, c1, c2], _ =>
      simp at e0 e1 e2
      subst e0 e1 e2
      rfl
end

section
variable {w : World} {Q : Value → World → Prop}

theorem fill_c {c : UInt8} (hQ : ∀ w', Ext w w' (fun _ => False) → Q (.string (mkS (List.replicate 64 c))) w') : CallE Try.prog 19 #[.int .u8 (c.toNat : Int)] w Q := by
  apply C.law40_Fill
  unfold W.law40_Fill
  refine mkB (n := 64) 5 (by omega) fun b w1 hb a1 e1 z1 => ?_
  refine LoopW.nat 64 (fun j x w' => x = ((j : Int), ()) ∧ At w' b (by_ (List.replicate j c ++ List.replicate (64 - j) 0)) 5 ∧ Ext w w' (fun _ => False)) ⟨rfl, a1, e1⟩ ?_
  rintro j x w2 next hj ⟨rfl, a2, e2⟩ hnext
  dsimp only
  have hsz := e2.size
  by_cases hlt : j < 64
  case neg =>
    rw [decide_eq_false (by omega), br_false]
    obtain rfl : j = 64 := by omega
    unfold W.law40_Fill_k6
    rw [Nat.sub_self, List.replicate_zero, List.append_nil] at a2
    refine bsT a2 List.length_replicate ?_
    exact hQ w2 e2
  rw [decide_eq_true (by omega), br_true]
  refine ixb j 1 5 hlt ?_
  refine st_i a2 (by rw [by_length]; simp only [List.length_append, List.length_replicate]; omega) fun w3 a3 e3 z3 => ?_
  rw [by_set, Nat.mul_one] at a3
  rw [inc_nat (by omega)]
  refine hnext hlt _ _ ⟨rfl, ?_, e2.trans e3 (fun _ _ h => h) (fun b' hb' hx => by omega)⟩
  have : (List.replicate j c ++ List.replicate (64 - j) 0).set j c = List.replicate (j + 1) c ++ List.replicate (64 - (j + 1)) 0 := by
    rw [List.set_append_right _ _ (by simp), List.length_replicate, Nat.sub_self, show 64 - j = (64 - (j + 1)) + 1 by omega, List.replicate_succ, List.set_cons_zero, List.replicate_succ', List.append_assoc]
    rfl
  rw [this] at a3
  exact a3

/-- The byte that a number gives for a place. -/
def dby (D i : Nat) : UInt8 := UInt8.ofNat (D / 256 ^ ((i + i / 8) % 8))
def datB (c : Cl) (was : Pg) (i : Nat) : UInt8 := if c.and_ = true ∧ i < was.length then dby c.data i &&& was.getD i 0 else dby c.data i
def dat (c : Cl) (was : Pg) : Pg := (List.range 64).map (datB c was)
theorem dat_length (c : Cl) (was : Pg) : (dat c was).length = 64 := by simp [dat]
theorem dat_get (c : Cl) (was : Pg) {i : Nat} (hi : i < 64) : (dat c was).getD i 0 = datB c was i := by
  unfold dat
  rw [List.getD_eq_getElem?_getD, List.getElem?_map, List.getElem?_range hi]; rfl

theorem data_c {c : Cl} {was : Pg} (hQ : ∀ w', Ext w w' (fun _ => False) → Q (.string (mkS (dat c was))) w') : CallE Try.prog 18 #[.agg #[.int .i64 c.kind, .int .i64 c.blk, .int .i64 c.pag, .int .u64 (c.data : Int), .int .u64 (c.torn : Int), .bool c.and_, .bool c.raw], .string (mkS was)] w Q := by
  apply C.law40_Call_data
  unfold W.law40_Call_data
  refine al_i fun xb w1 hxb a1 e1 z1 => ?_
  simp only [add_mk, Nat.zero_add]
  refine mkB (n := 64) 5 (by omega) fun b w2 hb a2 e2 z2 => ?_
  have ax2 := a1.ext e2 (fun h => h)
  have hzl : (List.replicate 64 (0 : UInt8)).length = 64 := List.length_replicate
  refine LoopW.nat 64 (fun j x w' => x = ((j : Int), ()) ∧ At w' b (by_ ((List.range 64).map fun i => if i < j then datB c was i else (List.replicate 64 (0 : UInt8)).getD i 0)) 5 ∧ At w' xb c.cells 39 ∧ Ext w w' (fun _ => False)) ⟨rfl, by rw [upto_zero hzl]; exact a2, ax2, e1.tr e2⟩ ?_
  rintro j x w3 next hj ⟨rfl, a3, x3, e3⟩ hnext
  dsimp only
  have hsz := e3.size
  have hbx : b ≠ xb := by have := a1.lt; omega
  by_cases hlt : j < 64
  case neg =>
    rw [decide_eq_false (by omega), br_false]
    obtain rfl : j = 64 := by omega
    unfold W.law40_Call_data_k8
    rw [upto_full] at a3
    refine bsT a3 (dat_length c was) ?_
    exact hQ w3 e3
  rw [decide_eq_true (by omega), br_true]
  refine ldI x3 rfl ?_
  have h1 : IntKind.wrap .u64 (IntKind.wrap .i64 (8 * (Int.tmod (IntKind.wrap .i64 ((j : Int) + (IntKind.wrap .i64 (Int.tdiv (j : Int) 8)))) 8))) = 8 * (((j + j / 8) % 8 : Nat) : Int) := by
    rw [show Int.tdiv (j : Int) 8 = ((j / 8 : Nat) : Int) from rfl, wrap_nat (n := j / 8) (by omega), show (j : Int) + ((j / 8 : Nat) : Int) = ((j + j / 8 : Nat) : Int) by push_cast; rfl, wrap_nat (by omega), show Int.tmod ((j + j / 8 : Nat) : Int) 8 = (((j + j / 8) % 8 : Nat) : Int) from rfl, wrap_i64 (by omega) (by omega), wrap_u64 (by omega) (by omega)]
  rw [h1]
  refine qI (shr_i (by omega) (by show 8 * (((j + j / 8) % 8 : Nat) : Int) ≤ ((64 : Nat) : Int); omega)) ?_
  rw [fdiv_byte, wrap_byte]
  refine ixb j 1 5 hlt ?_
  refine st_i a3 (by rw [by_length]; simp; omega) fun w4 a4 e4 z4 => ?_
  rw [by_set, Nat.mul_one] at a4
  have x4 := x3.ext e4 (fun hx => hbx hx.symm)
  refine ldB x4 rfl ?_
  rw [mkS_size]
  have e34 : Ext w w4 (fun _ => False) := e3.trans e4 (fun _ _ h => h) (fun b' hb' hx => by omega)
  have plain : datB c was j = dby c.data j → next (((j + 1 : Nat) : Int), ()) w4 := fun hd => hnext hlt _ _ ⟨rfl, by rw [upto_succ, hd]; exact a4, x4, e34⟩
  have k7 : ∀ f : Bool, (f = true ↔ c.and_ = true ∧ j < was.length) → W.law40_Call_data_k7 (mkS was) ⟨xb, 0, none⟩ (some ⟨b, 0, none⟩) 64 64 (j : Int) f next w4 Q := by
    intro f hf
    unfold W.law40_Call_data_k7
    rw [inc_nat (by omega)]
    cases f with
    | false =>
      rw [br_false]
      refine plain ?_
      unfold datB
      rw [if_neg (fun h => by have := hf.2 h; cases this)]
    | true =>
      rw [br_true]
      have hh := hf.1 rfl
      show dr w4 _
      unfold dr
      have hgl : ((List.range 64).map fun i => if i < j then datB c was i else (List.replicate 64 (0 : UInt8)).getD i 0).length = 64 := by simp
      refine ixb j 1 5 hlt ?_
      refine ldI (w := drew w4) a4 (x := ((dby c.data j).toNat : Int)) (by rw [Nat.mul_one, by_get, List.getElem?_set_self (by rw [hgl]; exact hlt)]; rfl) ?_
      refine qI (sxn j hh.2) ?_
      refine ixb j 1 5 hlt ?_
      rw [and8]
      refine st_i (w := drew w4) a4 (by rw [by_length, List.length_set, hgl]; omega) fun w5 a5 e5 z5 => ?_
      rw [by_set, Nat.mul_one, List.set_set] at a5
      refine hnext hlt _ _ ⟨rfl, ?_, At.ext (w := drew w4) x4 e5 (fun hx => hbx hx.symm), e34.trans e5.of_drew (fun _ _ h => h) (fun b' hb' hx => by omega)⟩
      rw [upto_succ]
      unfold datB at a5 ⊢
      rw [if_pos hh]
      exact a5
  refine br_of (fun ha => k7 _ ?_) (fun ha => k7 _ ?_)
  · rw [decide_eq_true_eq]
    exact ⟨fun h => ⟨ha, by omega⟩, fun h => by omega⟩
  · constructor
    · intro h; cases h
    · rintro ⟨h, _⟩; rw [ha] at h; cases h

theorem at_c {c : Cl} {s0 s1 s2 : Int} (h0 : 0 < s0) (h0' : s0 ≤ 100) (h1 : 0 < s1) (h1' : s1 ≤ 100) (hr : c.raw = false) (hQ : ∀ w', Ext w w' (fun _ => False) → Q (.tuple #[.int .i64 (modv c.blk s0), .int .i64 (modv c.pag s1)]) w') :
    CallE Try.prog 14 #[.agg #[.int .i64 c.kind, .int .i64 c.blk, .int .i64 c.pag, .int .u64 (c.data : Int), .int .u64 (c.torn : Int), .bool c.and_, .bool c.raw], .agg #[.int .i64 s0, .int .i64 s1, .int .i64 s2]] w Q := by
  apply C.law40_Call_at
  unfold W.law40_Call_at
  refine al_i fun xb w1 hxb a1 e1 z1 => ?_
  refine al_i fun yb w2 hyb a2 e2 z2 => ?_
  simp only [add_mk, Nat.zero_add]
  have x2 := a1.ext e2 (fun h => h)
  refine ldB x2 rfl ?_
  rw [hr, br_false]
  refine ⟨fun w' => At w' xb c.cells 39 ∧ At w' yb [.int .i64 s0, .int .i64 s1, .int .i64 s2] 23, ⟨x2, a2⟩, ?_⟩
  refine ldS_i (fun w h => h.1) rfl (fi ?_)
  refine ldS_i (fun w h => h.2) rfl (fi ?_)
  refine ldS_i (fun w h => h.1) rfl (fi ?_)
  refine ldS_i (fun w h => h.2) rfl (fi ?_)
  refine mod_c h0 (by omega) (fi ⟨⟨x2, a2⟩, ?_⟩)
  refine mod_c h1 (by omega) (fi ⟨⟨x2, a2⟩, ?_⟩)
  exact hQ (drew w2) (e1.tr e2).drew_

theorem shape_c {s0 s1 s2 : Int} (hQ : ∀ w', Ext w w' (fun _ => False) → Q (.agg #[.int .i64 (1 + modv s0 3), .int .i64 (1 + modv s1 3), .int .i64 (modv s2 6)]) w') :
    CallE Try.prog 10 #[.agg #[.int .i64 s0, .int .i64 s1, .int .i64 s2]] w Q := by
  apply C.law40_shape
  unfold W.law40_shape
  refine al_i fun xb w1 hxb a1 e1 z1 => ?_
  refine al_n 3 fun yb w2 zs hyb hzs a2 e2 z2 => ?_
  simp only [add_mk, Nat.zero_add]
  have x2 := a1.ext e2 (fun h => h)
  refine ⟨fun w' => At w' xb [.int .i64 s0, .int .i64 s1, .int .i64 s2] 23, x2, ?_⟩
  refine ldS_i (fun w h => h) rfl (fi ?_)
  refine ldS_i (fun w h => h) rfl (fi ?_)
  refine ldS_i (fun w h => h) rfl (fi ?_)
  refine mod_c (by omega) (by omega) (fi ⟨x2, ?_⟩)
  refine mod_c (by omega) (by omega) (fi ⟨x2, ?_⟩)
  refine mod_c (by omega) (by omega) (fi ⟨x2, ?_⟩)
  have m0 := modv_bd (v := s0) (n := 3) (by omega)
  have m1 := modv_bd (v := s1) (n := 3) (by omega)
  rw [wrap_i64 (by omega) (by omega), wrap_i64 (by omega) (by omega)]
  refine st_w (w := drew w2) (vs := [.int .i64 (1 + modv s0 3), .int .i64 (1 + modv s1 3), .int .i64 (modv s2 6)]) 3 a2 hzs rfl (fun v hv => by simp only [List.mem_cons, List.not_mem_nil, or_false] at hv; rcases hv with rfl | rfl | rfl <;> rfl) fun w3 a3 e3 z3 => ⟨At.ext (w := drew w2) x2 e3 (by have := a1.lt; omega), ?_⟩
  refine ld_w a3 (fg ?_)
  exact hQ w3 ((e1.tr e2).trans e3.of_drew (fun _ _ h => h) (fun b hb hx => by omega))
end
end Go.Proofs.Ytbfkhnaknbkilaa.Fl
