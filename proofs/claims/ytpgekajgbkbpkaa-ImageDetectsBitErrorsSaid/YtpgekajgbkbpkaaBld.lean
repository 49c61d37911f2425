/-
  Contracts of a strings.Builder that the code owns: Write and String. No condition.
-/
import Derived.Test.YtpgekajgbkbpkaaStr
import Derived.Test.YtpgekajgbkbpkaaW1
import Derived.Lib.UnsafeStr
import Derived.Lib.Builder
namespace Go.Proofs.Ytpgekajgbkbpkaa
open Go Go.Ev Go.Proofs

/-- The builder at block b has taken the bytes l. -/
def Bld (w : World) (b : Nat) (l : List UInt8) : Prop :=
  ∃ (p a : Option Addr) (n c : Nat), At w b [.pointer p, .slice a n c] 84 ∧ (p = none ∨ p = some ⟨b, 0, none⟩) ∧ Sl w 5 1 a n c (by_ l) ∧ n = l.length ∧ ∀ g, a = some ⟨g, 0, none⟩ → g ≠ b

/-- A builder's blocks lie from B on. -/
def BldFrom (w : World) (B b : Nat) (l : List UInt8) : Prop :=
  ∃ (p a : Option Addr) (n c : Nat), At w b [.pointer p, .slice a n c] 84 ∧ (p = none ∨ p = some ⟨b, 0, none⟩) ∧ Sl w 5 1 a n c (by_ l) ∧ n = l.length ∧ B ≤ b ∧ ∀ g, a = some ⟨g, 0, none⟩ → g ≠ b ∧ B ≤ g

theorem bInfo : ∃ j, Try.prog.info? 84 = some j ∧ j.size ≠ 0 := by
  have h : (Try.prog.info? 84).map (·.size) = some 2 := by kernel_rfl
  cases hj : Try.prog.info? 84 with
  | none => rw [hj] at h; cases h
  | some j =>
    rw [hj] at h
    simp only [Option.map_some, Option.some.injEq] at h
    exact ⟨j, rfl, by omega⟩

theorem shape_at {w : World} {b : Nat} {cs : List Value} {T : TypeId} (h : At w b cs T) : w.shape? b = some (T, cs.length) := by
  obtain ⟨fr, h, _⟩ := h
  simp [World.shape?, h]

section
variable {w : World} {b : Nat} {Q : Value → World → Prop}

theorem copyCheck_c {p a : Option Addr} {n c : Nat} (h : At w b [.pointer p, .slice a n c] 84) (hp : p = none ∨ p = some ⟨b, 0, none⟩)
    (hQ : ∀ w', At w' b [.pointer (some ⟨b, 0, none⟩), .slice a n c] 84 → Ext w w' (· = b) → w'.heap.size = w.heap.size → Q (.tuple #[]) w') :
    CallE Try.prog 48 #[.pointer (some ⟨b, 0, none⟩)] w Q := by
  apply C.strings_Builder_copyCheck
  unfold W.strings_Builder_copyCheck
  obtain ⟨j, hj, hj0⟩ := bInfo
  simp only [add_mk, Nat.zero_add]
  refine ld_i h rfl ?_
  rw [fP_ptr]
  refine eq_nil ?_
  rw [fB_bool]
  rcases hp with rfl | rfl
  · simp only [Option.isNone_none, br_true]
    refine ⟨_, _, Lib.run_to_unsafe w ⟨b, 0, none⟩ (t := 84) (by kernel_rfl) (by kernel_rfl) hj hj0 (shape_at h) (by show 0 < 2; omega), ?_⟩
    dsimp only
    rw [fP_ptr]
    refine ⟨_, _, Lib.run_from_unsafe w ⟨b, 0, none⟩ (u := 84) (by kernel_rfl) (by kernel_rfl) hj (shape_at h) (by kernel_rfl), ?_⟩
    dsimp only
    rw [fP_ptr]
    refine st_i h (by simp) fun w1 a1 e1 z1 => ?_
    exact hQ w1 a1 e1 z1
  · simp only [Option.isNone_some, br_false]
    refine ld_i h rfl ?_
    rw [fP_ptr]
    refine ⟨.bool false, ?_, ?_⟩
    · rw [Sem.run_bind, run_eqGuard_ptr]
      exact Lib.run_neq_ptr_same w ⟨b, 0, none⟩ (te := 84) (by kernel_rfl) hj
    · dsimp only
      rw [fB_bool, br_false]
      exact hQ w h (Ext.refl _ _) rfl

theorem bwrite_c {B : Nat} {l l' : List UInt8} {xa : Option Addr} {xn xc : Nat} (h : BldFrom w B b l) (hx : Reads w xa (by_ l')) (hxb : ∀ g, xa = some g → g.block ≠ b) (hxn : l'.length = xn) (hlen : l.length + l'.length ≤ 1000000000) (hB : B ≤ w.heap.size)
    (hQ : ∀ w', BldFrom w' B b (l ++ l') → Ext w w' (fun g => B ≤ g) → Q (.tuple #[.int .i64 (xn : Int), .nilIface]) w') :
    CallE Try.prog 54 #[.pointer (some ⟨b, 0, none⟩), .slice xa xn xc] w Q := by
  obtain ⟨p, a, n, c, h1, h2, h3, rfl, hBb, h5⟩ := h
  apply C.strings_Builder_Write
  unfold W.strings_Builder_Write
  refine copyCheck_c h1 h2 fun w1 a1 e1 z1 => ⟨rfl, ?_⟩
  simp only [add_mk, Nat.zero_add]
  refine ld_i a1 rfl ?_
  rw [fS_slice]
  have s1 := h3.ext e1 (fun g hg hx => (h5 g hg).1 hx)
  have hx1 : Reads w1 xa (by_ l') := by
    rcases hx with hx | ⟨p, rfl, hx⟩
    · exact .inl hx
    · refine .inr ⟨p, rfl, fun j hj => ?_⟩
      have hcell := hx j hj
      rw [← hcell]
      have hlt : (p.add j).block < w.heap.size := by
        rw [List.getElem?_eq_getElem hj] at hcell
        exact cell_lt hcell
      have hblk : (p.add j).block = p.block := by unfold Addr.add; split <;> rfl
      exact cell_ext e1 hlt (by rw [hblk]; exact hxb p rfl)
  refine ap_i 5 1 s1 hx1 (by rw [by_length, hxn, Nat.mul_one]) (by_one l') (by omega) fun a' c' w2 s2 hor _ e2 => ?_
  rw [fS_slice]
  have a2 := a1.ext e2 (fun hx => (h5 b hx).1 rfl)
  refine st_i a2 (by simp) fun w3 a3 e3 z3 => ?_
  have hbl := h1.lt
  have hne : ∀ g, a' = some ⟨g, 0, none⟩ → g ≠ b ∧ B ≤ g := by
    intro g hg
    rcases hor g hg with hg' | hg'
    · exact h5 g hg'
    · exact ⟨by omega, by omega⟩
  refine hQ w3 ⟨_, a', _, c', a3, .inr rfl, ?_, by rw [List.length_append, hxn], hBb, hne⟩ ?_
  · rw [by_append]
    exact s2.ext e3 (fun g hg hx => (hne g hg).1 hx)
  · refine (e1.trans e2 (Z := fun g => B ≤ g) (fun b' _ h => by omega) (fun b' _ h => (h5 b' h).2)).trans e3 (fun _ _ h => h) (fun b' _ h => by omega)

theorem freeze_ext (w : World) (g n : Nat) : Ext w (w.freeze ⟨g, 0, none⟩ n) (· = g) := by
  unfold World.freeze
  split
  · exact Ext.refl _ _
  · refine ⟨rfl, rfl, rfl, by simp, fun b' hb' hx => ?_⟩
    simp [Array.getElem?_modify, Ne.symm hx]

theorem bstring_c {B : Nat} {l : List UInt8} (h : BldFrom w B b l) (hl0 : l ≠ []) (hlen : l.length ≤ 1000000000)
    (hQ : ∀ w', Ext w w' (fun g => B ≤ g) → Q (.string (mkS l)) w') :
    CallE Try.prog 46 #[.pointer (some ⟨b, 0, none⟩)] w Q := by
  obtain ⟨p, a, n, c, h1, h2, h3, rfl, hBb, h5⟩ := h
  apply C.strings_Builder_String
  unfold W.strings_Builder_String
  have hl1 : l.length ≠ 0 := by simpa using hl0
  rcases h3 with ⟨_, h, _⟩ | ⟨g, sp, rfl, ag, hgl, hsp, hnc⟩
  · exact absurd h hl1
  have hg := h5 g rfl
  refine ⟨fun w' => At w' b [.pointer p, .slice (some ⟨g, 0, none⟩) l.length c] 84, h1, ?_⟩
  simp only [add_mk, Nat.zero_add]
  refine ldS_i (fun w h => h) rfl ?_
  rw [fS_slice]
  refine ldS_i (fun w h => h) rfl ?_
  rw [fS_slice]
  refine ⟨_, _, Lib.run_unsafeSliceData_row (drew w) _ _ ⟨g, 0, none⟩ l.length c (by omega), ?_⟩
  dsimp only
  rw [fP_ptr]
  refine ⟨h1, ?_⟩
  have hcells := by_length l
  refine ⟨_, _, Lib.run_unsafeString_row (drew w) _ _ _ 5 (by kernel_rfl) (by kernel_rfl) g _ (shape_at (w := drew w) ag) l hl0 (by rw [List.length_append]; omega) (by omega) ?_, ?_⟩
  · intro j x hj
    rw [add_mk, Nat.zero_add]
    have := At.cell (w := drew w) (o := j) ag
    rw [this, List.getElem?_append_left (by rw [by_length]; exact (List.getElem?_eq_some_iff.mp hj).1), by_get, hj]
    rfl
  · dsimp only
    rw [fT_str]
    have e := freeze_ext (drew w) g l.length
    exact ⟨At.ext (w := drew w) h1 e (Ne.symm hg.1), hQ _ (e.of_drew.mono fun b' _ h => by omega)⟩

end
end Go.Proofs.Ytpgekajgbkbpkaa
