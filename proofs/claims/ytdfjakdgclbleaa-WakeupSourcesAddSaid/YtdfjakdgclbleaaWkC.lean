/-
  The statements' lists of calls, as they lie in memory. No condition.
-/
import Derived.Test.YtdfjakdgclbleaaWkL
import Derived.Test.YtdfjakdgclbleaaLink
namespace Go.Proofs.Ytdfjakdgclbleaa.Wk
open Go Go.Ev Go.Proofs Go.ChangeShapes Go.WideShapes Go.ChangeAt Go.RowKit

/-- The slice value (l, n) holds the calls cs. -/
def Cls (w : World) (l : Option Addr) (cs : List Cl) : Prop :=
  (∀ c ∈ cs, c.fine) ∧ (cs = [] ∨ ∃ a, l = some a ∧ a.block < w.heap.size ∧ ∀ i (hi : i < cs.length), ∀ j, j < 6 → w.cell? (a.add (i * 6 + j)) = (cs[i].cells)[j]?)

theorem Cls.ext {w w' : World} {l : Option Addr} {cs : List Cl} {X : Nat → Prop} (h : Cls w l cs) (he : Ext w w' X) (hx : ∀ b, b < w.heap.size → ¬ X b) : Cls w' l cs := by
  refine ⟨h.1, h.2.imp id ?_⟩
  rintro ⟨a, rfl, hlt, hc⟩
  refine ⟨a, rfl, Nat.lt_of_lt_of_le hlt he.size, fun i hi j hj => ?_⟩
  rw [← hc i hi j hj]
  refine cell_ext he ?_ (hx _ ?_)
  all_goals
    have : (a.add (i * 6 + j)).block = a.block := by unfold Addr.add; split <;> rfl
    rw [this]; exact hlt

theorem add_block (a : Addr) (n : Nat) : (a.add n).block = a.block := by unfold Addr.add; split <;> rfl

/-- The same, where the blocks of a set below B are the only ones that change. -/
theorem Cls.below {B : Nat} {w w' : World} {l : Option Addr} {cs : List Cl} (h : Cls w l cs) (hb : Below B w w') (hB : B = w.heap.size) : Cls w' l cs := by
  subst hB
  refine ⟨h.1, h.2.imp id ?_⟩
  rintro ⟨a, rfl, hlt, hc⟩
  refine ⟨a, rfl, Nat.lt_of_lt_of_le hlt hb.size, fun i hi j hj => ?_⟩
  rw [← hc i hi j hj]
  unfold World.cell?
  rw [hb.block _ (by rw [add_block]; exact hlt)]

theorem Cls.some {w : World} {l : Option Addr} {cs : List Cl} (h : Cls w l cs) {k : Nat} (hk : k < cs.length) :
    ∃ a, l = some a ∧ (∀ j, j < cs[k].cells.length → w.cell? ((a.add (k * 6)).add j) = (cs[k].cells)[j]?) ∧ w.cell? ((a.add (k * 6)).add 0) = some (.int .i64 cs[k].kind) ∧ cs[k].fine := by
  rcases h.2 with rfl | ⟨a, rfl, _, hc⟩
  · simp at hk
  · refine ⟨a, rfl, fun j hj => ?_, ?_, h.1 _ (List.getElem_mem hk)⟩
    · rw [add_add_, hc k hk j hj]
    · rw [add_add_, hc k hk 0 (by omega)]; rfl

section
variable {H : Type} {enc : TypeId × Value → H}

theorem open_calls {W : World} {v : Value} {d : DataW H} {p : List MemPlace} {r : Reach} {b0 : Nat} (hv : Value.okWide Try.prog W r b0 22 v)
    (h : DataW.Trod enc Try.prog W 0 (fun _ => true) true 22 v d p) :
    ∃ (l : Option Addr) (n c : Nat) (cs : List Cl), v = .slice l n c ∧ cs.length = n ∧ Cls W l cs := by
  rcases open_sl (e := 36) (by kernel_rfl) hv h with rfl | ⟨a, len, cap, rfl, hl, hm, hi⟩
  · exact ⟨none, 0, 0, [], rfl, rfl, by simp, .inl rfl⟩
  · have hc6 : Try.prog.cellsOf 36 = 6 := by kernel_rfl
    rw [hc6] at hi
    have key : ∀ i, i < len → ∃ c : Cl, c.fine ∧ ∀ j, j < 6 → W.cell? (a.add (i * 6 + j)) = (c.cells)[j]? := by
      intro i him
      obtain ⟨cs, n, y, hcl, hat, hy⟩ := hi i him
      obtain ⟨xs, m, _, _, _, hxl, hf⟩ := DataW.trod_struct (fs := (match Try.prog.underlying 36 with | some (.struct fs) => fs | _ => #[])) (by kernel_rfl) hy
      match cs, hcl with
      | [v0, v1, v2, v3, v4, v5], _ =>
        match xs, hxl with
        | [y0, y1, y2, y3, y4, y5], _ =>
          obtain ⟨n0, h0, _, w0⟩ := DataW.trod_int (k := .i64) (by kernel_rfl) (hf 0 _ rfl)
          obtain ⟨n1, h1, _, w1⟩ := DataW.trod_int (k := .i64) (by kernel_rfl) (hf 1 _ rfl)
          obtain ⟨n2, h2, _, w2⟩ := DataW.trod_int (k := .u64) (by kernel_rfl) (hf 2 _ rfl)
          obtain ⟨n3, h3, _, w3⟩ := DataW.trod_int (k := .u64) (by kernel_rfl) (hf 3 _ rfl)
          obtain ⟨n4, h4, _, w4⟩ := DataW.trod_int (k := .i64) (by kernel_rfl) (hf 4 _ rfl)
          obtain ⟨n5, h5, _⟩ := DataW.trod_bool (by kernel_rfl) (hf 5 _ rfl)
          replace h0 : [v0] = _ := h0
          replace h1 : [v1] = _ := h1
          replace h2 : [v2] = _ := h2
          replace h3 : [v3] = _ := h3
          replace h4 : [v4] = _ := h4
          replace h5 : [v5] = _ := h5
          cases h0; cases h1; cases h2; cases h3; cases h4; cases h5
          refine ⟨⟨n0, n1, n2, n3, n4, n5⟩, ⟨(int_of_wf w2).1, (int_of_wf w3).1⟩, fun j hj => ?_⟩
          rw [hat j hj]; rfl
    have hex : ∃ f : Nat → Cl, ∀ i, i < len → (f i).fine ∧ ∀ j, j < 6 → W.cell? (a.add (i * 6 + j)) = ((f i).cells)[j]? := by
      refine ⟨fun i => if h : i < len then Classical.choose (key i h) else ⟨0, 0, 0, 0, 0, false⟩, fun i him => ?_⟩
      simp only [him, dif_pos]
      exact Classical.choose_spec (key i him)
    obtain ⟨f, hf⟩ := hex
    refine ⟨some a, len, cap, (List.range len).map f, rfl, by simp, ?_, ?_⟩
    · intro c hc
      obtain ⟨i, hir, rfl⟩ := List.mem_map.1 hc
      exact (hf i (List.mem_range.1 hir)).1
    · rcases Nat.eq_zero_or_pos len with h0 | h0
      · subst h0; exact .inl rfl
      · refine .inr ⟨a, rfl, ?_, fun i him j hj => ?_⟩
        · have h1 := (hf 0 h0).2 0 (by omega)
          have h2 := cell_lt (h1.trans (show _ = some (Value.int .i64 (f 0).kind) from rfl))
          rwa [add_block] at h2
        · simp at him
          rw [(hf i him).2 j hj]
          simp
end
end Go.Proofs.Ytdfjakdgclbleaa.Wk
