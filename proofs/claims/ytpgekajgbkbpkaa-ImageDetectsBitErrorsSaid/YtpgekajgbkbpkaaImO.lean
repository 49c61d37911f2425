/-
  Arguments that came in: digests, headers, lists of pages' descriptions. No condition beyond those stated.
-/
import Derived.Test.YtpgekajgbkbpkaaImR
import Derived.Test.YtpgekajgbkbpkaaPzK
import Derived.Test.YtpgekajgbkbpkaaOpn
namespace Go.Proofs.Ytpgekajgbkbpkaa.Im
open Go Go.Ev Go.Proofs Go.ChangeShapes Go.WideShapes Go.ChangeAt Go.RowKit

/-- A page's description. -/
structure Rw where
  step : Int
  wa : Option Addr
  wn : Nat
  wc : Nat
  st : Int
instance : Inhabited Rw := ⟨⟨0, none, 0, 0, 0⟩⟩
def Rw.cells (r : Rw) : List Value := [.int .i64 r.step, .slice r.wa r.wn r.wc, .int .u8 r.st]
theorem Rw.len (r : Rw) : r.cells.length = 3 := rfl
/-- A list of descriptions that came in. -/
structure Rin (w : World) (l : Option Addr) (n : Nat) (rs : List Rw) : Prop where
  r : Reads w l (rs.flatMap Rw.cells)
  n : rs.length = n
  ok : ∀ x ∈ rs, Pz.U32s w x.wa x.wn ∧ 0 ≤ x.st ∧ x.st ≤ 255
  mx : rs.length ≤ maxLen
theorem Rin.ext {w w' : World} {l : Option Addr} {n : Nat} {rs : List Rw} (h : Rin w l n rs) (e : Ext w w' (fun _ => False)) : Rin w' l n rs :=
  ⟨h.r.ext e (fun _ _ _ h => h), h.n, fun x hx => ⟨(h.ok x hx).1.ext e, (h.ok x hx).2⟩, h.mx⟩
theorem Rin.ptr {w : World} {l : Option Addr} {n : Nat} {rs : List Rw} (h : Rin w l n rs) (hn : 0 < n) : ∃ p, l = some p :=
  h.r.some_ (by rw [flat_length (f := Rw.cells) (m := 3) (fun _ => rfl), h.n]; omega)

section
variable {H : Type} {enc : TypeId × Value → H}
theorem trod_board {W : World} {n : Nat} {cs : List Value} {x : DataW H × List MemPlace} (h : DataW.trod enc Try.prog W 0 (fun _ => true) true n 30 cs = some x) : ∃ bd : List UInt8, bd.length = 32 ∧ cs = by_ bd := by
  obtain ⟨xs, m, _, _, hcl, hxl, hf⟩ := DataW.trod_array (n := 32) (e := 5) (by kernel_rfl) h
  have hc32 : Try.prog.cellsOf 30 = 32 := by kernel_rfl
  have hc1 : Try.prog.cellsOf 5 = 1 := by kernel_rfl
  rw [hc32] at hcl
  have key : ∀ i, i < 32 → ∃ c : UInt8, cs[i]? = some (.int .u8 (c.toNat : Int)) := by
    intro i hi
    have h1 := hf i hi
    rw [List.getElem?_eq_getElem (by omega), hc1, Nat.mul_one] at h1
    obtain ⟨k, hk, _, wk⟩ := DataW.trod_int (k := .u8) (by kernel_rfl) h1
    obtain ⟨c, rfl⟩ := u8_of (int_of_wf wk).1 (int_of_wf wk).2
    refine ⟨c, ?_⟩
    have := congrArg (fun l : List Value => l[0]?) hk
    simpa [List.getElem?_drop, List.getElem?_take] using this
  obtain ⟨bd, hl, hq⟩ := choose_list 32 key
  refine ⟨bd, hl, ?_⟩
  apply List.ext_getElem?
  intro i
  by_cases hi : i < 32
  · rw [hq i (by omega), by_get, List.getElem?_eq_getElem (by omega)]; rfl
  · rw [List.getElem?_eq_none (by omega), List.getElem?_eq_none (by rw [by_length]; omega)]
theorem open_board {W : World} {v : Value} {d : DataW H} {p : List MemPlace} {r : Reach} {b0 : Nat} (hv : Value.okWide Try.prog W r b0 30 v)
    (h : DataW.Trod enc Try.prog W 0 (fun _ => true) true 30 v d p) : ∃ bd : List UInt8, v = .agg (by_ bd).toArray ∧ bd.length = 32 := by
  obtain ⟨n, h⟩ := trod_of h
  obtain ⟨cs, rfl⟩ := okWide_agg (t := 30) (by kernel_rfl) hv
  obtain ⟨bd, hl, hc⟩ := trod_board h
  have hc' : cs.toList = by_ bd := hc
  refine ⟨bd, ?_, hl⟩
  rw [← hc']
theorem open_hdr {W : World} {v : Value} {d : DataW H} {p : List MemPlace} {r : Reach} {b0 : Nat} (hv : Value.okWide Try.prog W r b0 32 v)
    (h : DataW.Trod enc Try.prog W 0 (fun _ => true) true 32 v d p) : ∃ (g : Nat) (bd : List UInt8) (n s : Nat), v = .agg (hdrC g bd n s).toArray ∧ bd.length = 32 ∧ g < 18446744073709551616 ∧ n < 4294967296 ∧ s < 4294967296 := by
  obtain ⟨n, h⟩ := trod_of h
  obtain ⟨cs, rfl⟩ := okWide_agg (t := 32) (by kernel_rfl) hv
  obtain ⟨xs, m, _, _, hcl, hxl, hf⟩ := DataW.trod_struct (fs := structFs Try.prog 32) (by kernel_rfl) h
  have hc35 : Try.prog.cellsOf 32 = 35 := by kernel_rfl
  have hs4 : (structFs Try.prog 32).size = 4 := by kernel_rfl
  rw [hc35] at hcl
  rw [hs4] at hxl
  have hcs : (Value.agg cs).cells.toList = cs.toList := rfl
  rw [hcs] at hcl
  obtain ⟨x0, x1, x2, x3, rfl⟩ := four hxl
  obtain ⟨n0, h0, _, w0⟩ := DataW.trod_int (k := .u64) (by kernel_rfl) (hf 0 _ rfl)
  obtain ⟨bd, hbl, h1⟩ := trod_board (hf 1 _ rfl)
  obtain ⟨n2, h2, _, w2⟩ := DataW.trod_int (k := .u32) (by kernel_rfl) (hf 2 _ rfl)
  obtain ⟨n3, h3, _, w3⟩ := DataW.trod_int (k := .u32) (by kernel_rfl) (hf 3 _ rfl)
  have e0 : (cs.toList.drop 0).take 1 = [.int .u64 n0] := h0
  have e1 : (cs.toList.drop 1).take 32 = by_ bd := h1
  have e2 : (cs.toList.drop 33).take 1 = [.int .u32 n2] := h2
  have e3 : (cs.toList.drop 34).take 1 = [.int .u32 n3] := h3
  obtain ⟨g, rfl⟩ := nat_of (int_of_wf w0).1
  obtain ⟨n', rfl⟩ := nat_of (int_of_wf w2).1
  obtain ⟨s', rfl⟩ := nat_of (int_of_wf w3).1
  have b0 : (g : Int) ≤ 18446744073709551615 := (int_of_wf w0).2
  have b2 : (n' : Int) ≤ 4294967295 := (int_of_wf w2).2
  have b3 : (s' : Int) ≤ 4294967295 := (int_of_wf w3).2
  refine ⟨g, bd, n', s', ?_, hbl, by omega, by omega, by omega⟩
  have hall : cs.toList = hdrC g bd n' s' := by
    have t1 : cs.toList = (cs.toList.drop 0).take 1 ++ ((cs.toList.drop 1).take 32 ++ ((cs.toList.drop 33).take 1 ++ (cs.toList.drop 34).take 1)) := by
      have s1 : (cs.toList.drop 33).take 1 ++ (cs.toList.drop 34).take 1 = cs.toList.drop 33 := by
        have : (cs.toList.drop 34).take 1 = cs.toList.drop 34 := List.take_of_length_le (by rw [List.length_drop]; omega)
        rw [this, show cs.toList.drop 34 = (cs.toList.drop 33).drop 1 by rw [List.drop_drop], List.take_append_drop]
      have s2 : (cs.toList.drop 1).take 32 ++ cs.toList.drop 33 = cs.toList.drop 1 := by
        rw [show cs.toList.drop 33 = (cs.toList.drop 1).drop 32 by rw [List.drop_drop], List.take_append_drop]
      rw [s1, s2, List.drop_zero, List.take_append_drop]
    rw [t1, e0, e1, e2, e3]
    rfl
  rw [← hall]
theorem trod_words {W : World} {n : Nat} {cs : List Value} {x : DataW H × List MemPlace} (h : DataW.trod enc Try.prog W 0 (fun _ => true) true n 67 cs = some x) : ∃ (l : Option Addr) (k c : Nat), cs = [.slice l k c] ∧ Pz.U32s W l k := by
  rcases DataW.trod_slice (e := 23) (by kernel_rfl) h with ⟨hc, _⟩ | ⟨a, len, cap, elems, rest, n, _, hc, _, _, hl, hm, hlen, hel, _⟩
  · exact ⟨none, 0, 0, hc, .inl rfl⟩
  · refine ⟨some a, len, cap, hc, ?_⟩
    have hc1 : Try.prog.cellsOf 23 = 1 := by kernel_rfl
    have key : ∀ i, i < len → ∃ x : Int, W.cell? (a.add i) = some (.int .u32 x) := by
      intro i hi
      have h1 := hel i hi
      rw [List.getElem?_eq_getElem (by omega)] at h1
      obtain ⟨cs', hcs, hy⟩ := Option.bind_eq_some_iff.1 h1
      obtain ⟨_, hcl, hat⟩ := World.cells?_some hcs
      obtain ⟨x, hx, _⟩ := DataW.trod_int (k := .u32) (by kernel_rfl) hy
      refine ⟨x, ?_⟩
      have := hat 0 (by rw [hc1]; omega)
      rw [hc1, Nat.mul_one, hx, add_add_, Nat.add_zero] at this
      exact this
    by_cases h0 : len = 0
    · exact .inl h0
    · obtain ⟨x, hx⟩ := key 0 (by omega)
      have := cell_lt hx
      rw [Pz.add_block'] at this
      exact .inr ⟨a, rfl, this, key⟩
set_option maxRecDepth 100000 in
theorem open_raws {W : World} {v : Value} {d : DataW H} {p : List MemPlace} {r : Reach} {b0 : Nat} (hv : Value.okWide Try.prog W r b0 41 v)
    (h : DataW.Trod enc Try.prog W 0 (fun _ => true) true 41 v d p) : ∃ (l : Option Addr) (n c : Nat) (rs : List Rw), v = .slice l n c ∧ Rin W l n rs := by
  rcases open_sl (e := 69) (by kernel_rfl) hv h with rfl | ⟨a, len, cap, rfl, hlc, hcm, hi⟩
  · exact ⟨none, 0, 0, [], rfl, .inl rfl, rfl, by simp, Nat.zero_le _⟩
  · have hc3 : Try.prog.cellsOf 69 = 3 := by kernel_rfl
    rw [hc3] at hi
    obtain ⟨l, hl, hr, hk, _⟩ := reads_rows (W := W) (a := a) (len := len) (m := 3) (f := Rw.cells) (R := fun c => Pz.U32s W c.wa c.wn ∧ 0 ≤ c.st ∧ c.st ≤ 255) (by omega) (fun _ => rfl) (fun i hi' => by
      obtain ⟨cs', n', y, hcl, hat, hy⟩ := hi i hi'
      obtain ⟨xs, m, _, _, _, hxl, hf⟩ := DataW.trod_struct (fs := structFs Try.prog 69) (by kernel_rfl) hy
      have hs3 : (structFs Try.prog 69).size = 3 := by kernel_rfl
      rw [hs3] at hxl
      match xs, hxl with
      | [x0, x1, x2], _ =>
        obtain ⟨n0, h0, _, w0⟩ := DataW.trod_int (k := .i64) (by kernel_rfl) (hf 0 _ rfl)
        obtain ⟨wa, wn, wc, h1, hu⟩ := trod_words (hf 1 _ rfl)
        obtain ⟨n2, h2, _, w2⟩ := DataW.trod_int (k := .u8) (by kernel_rfl) (hf 2 _ rfl)
        refine ⟨⟨n0, wa, wn, wc, n2⟩, ⟨hu, (int_of_wf w2).1, (int_of_wf w2).2⟩, fun j hj => ?_⟩
        rw [hat j hj]
        have e0 : (cs'.drop 0).take 1 = [.int .i64 n0] := h0
        have e1 : (cs'.drop 1).take 1 = [.slice wa wn wc] := h1
        have e2 : (cs'.drop 2).take 1 = [.int .u8 n2] := h2
        match cs', hcl with
        | [c0, c1, c2], _ =>
          simp at e0 e1 e2
          subst e0 e1 e2
          rfl)
    exact ⟨some a, len, cap, l, rfl, hr, hl, hk, by rw [hl]; exact Nat.le_trans hlc hcm⟩
end
end Go.Proofs.Ytpgekajgbkbpkaa.Im
