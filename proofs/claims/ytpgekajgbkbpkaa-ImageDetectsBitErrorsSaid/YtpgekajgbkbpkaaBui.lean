/-
  A struct that is built out of parts; a slice of a slice. Of any program; no condition beyond those stated.
-/
import Derived.Test.YtpgekajgbkbpkaaR
namespace Go.Ev
open Go

theorem foldl_set (off : Nat) : ∀ (vs : List Value) (k : Nat) (cs : List Value), (vs.zipIdx k).foldl (fun (cs : Array Value) (p : Value × Nat) => cs.setIfInBounds (off + p.2) p.1) cs.toArray = (splice cs (off + k) vs).toArray
  | [], k, cs => rfl
  | v :: vs, k, cs => by
    simp only [List.zipIdx_cons, List.foldl_cons, splice]
    have : cs.toArray.setIfInBounds (off + k) v = (cs.set (off + k) v).toArray := by simp
    rw [this, foldl_set off vs (k + 1) _]
    rfl
theorem fill_cons {place : Nat → Option (Nat × Nat)} {i : Nat} {v : Value} {cs : List Value} {rest : List (Nat × Value)} (off : Nat) (vs : List Value) (hp : place i = some (off, vs.length)) (hv : v.cells = vs.toArray) (ho : off + vs.length ≤ cs.length) :
    Instr.fill place cs.toArray ((i, v) :: rest) = Instr.fill place (splice cs off vs).toArray rest := by
  rw [Instr.fill, hp, hv]
  dsimp only
  rw [if_neg (by simp; omega)]
  congr 1
  have hz : vs.toArray.zipIdx = (vs.zipIdx).toArray := by simp
  rw [hz, List.foldl_toArray]
  exact foldl_set off vs 0 cs

section
variable {P : Program} {w : World} {t : TypeId}
theorem bld_run {parts : List (Nat × Value)} {out : Array Value} (fs : Array Field) (pl : Array (Nat × Nat)) (z : Value) (cs : List Value) (hz : peel P (zeroValue t) = some z) (hc : z.cells = cs.toArray) (hu : P.underlying t = some (.struct fs))
    (hp : peel P (fs.mapM fun f => do pure (f.offset, ← sizeOf f.type)) = some pl) (hf : Instr.fill (fun i => pl[i]?) cs.toArray parts = some out) : ∀ w, (Instr.build t parts.toArray).run P w = .ok (.agg out) w := by
  intro w
  unfold Instr.build
  simp only [Sem.run_bind, run_of_peel hz, Result.andThen, run_underlying_ok hu]
  rw [run_of_peel hp]
  dsimp only
  rw [hc, hf]
  rfl
/-- s[i:j] -/
theorem sl_lh {a : Addr} {n c i j : Nat} {k k' : IntKind} (e : TypeId) (m : Nat) (hij : i ≤ j) (hj : j ≤ c) (hic : i < c) (hu : P.underlying t = some (.slice e) := by kernel_rfl) (hm : sizeT P e = m := by kernel_rfl) (hh : hasT P e = true := by kernel_rfl) :
    ∀ w, (Instr.sliceAt t (.slice (some a) n c) (some (.int k (i : Int))) (some (.int k' (j : Int))) none).run P w = .ok (.slice (some (a.add (i * m))) (j - i) (c - i)) w := by
  intro w
  unfold Instr.sliceAt Instr.slice
  simp only [Sem.run_bind, Result.andThen, run_underlying_ok hu, Instr.sliceBounds, Sem.run_pure, run_sliceBound (show (0 : Int) ≤ (j : Int) by omega) (show (j : Int) ≤ (c : Int) by omega), Int.toNat_natCast, run_sliceBound (show (0 : Int) ≤ (i : Int) by omega) (show (i : Int) ≤ (j : Int) by omega), run_sizeOf hm hh, Option.map_some]
  rw [if_neg (by omega)]
/-- s[i:], to the end too. -/
theorem sl_fr {a : Addr} {n c i : Nat} {k : IntKind} (e : TypeId) (m : Nat) (hi : i ≤ n) (hu : P.underlying t = some (.slice e) := by kernel_rfl) (hm : sizeT P e = m := by kernel_rfl) (hh : hasT P e = true := by kernel_rfl) :
    ∀ w, (Instr.sliceAt t (.slice (some a) n c) (some (.int k (i : Int))) none none).run P w = .ok (.slice (some (if c = i then a else a.add (i * m))) (n - i) (c - i)) w := by
  intro w
  unfold Instr.sliceAt Instr.slice
  simp only [Sem.run_bind, Result.andThen, run_underlying_ok hu, Instr.sliceBounds, Sem.run_pure, run_sliceBound (show (0 : Int) ≤ (i : Int) by omega) (show (i : Int) ≤ (n : Int) by omega), Int.toNat_natCast, run_sizeOf hm hh, Option.map_some]
  split <;> rfl
end
theorem Reads.sub {w : World} {a : Addr} {vs : List Value} (i n : Nat) (h : Reads w (some a) vs) : Reads w (some (a.add i)) ((vs.drop i).take n) := by
  rcases h with rfl | ⟨p, hp, h⟩
  · exact .inl (by simp)
  · cases hp
    refine .inr ⟨_, rfl, fun j hj => ?_⟩
    simp only [List.length_take, List.length_drop] at hj
    rw [add_add_, h _ (by omega), List.getElem?_take_of_lt (by omega), List.getElem?_drop]
theorem Reads.take {w : World} {a : Option Addr} {vs : List Value} (n : Nat) (h : Reads w a vs) : Reads w a (vs.take n) := by
  rcases h with rfl | ⟨p, rfl, h⟩
  · exact .inl (by simp)
  · refine .inr ⟨_, rfl, fun j hj => ?_⟩
    simp only [List.length_take] at hj
    rw [h _ (by omega), List.getElem?_take_of_lt (by omega)]
end Go.Ev
