/-
  Page compression: the statements' helpers: the page that words determine. No condition beyond those stated.
-/
import Derived.Test.YtpgekajgbkbpkaaPzD
import Derived.Test.YtpgekajgbkbpkaaMod
import Derived.Test.YtpgekajgbkbpkaaLink
namespace Go.Proofs.Ytpgekajgbkbpkaa.Pz
open Go Go.Ev Go.Proofs Go.ChangeShapes Go.WideShapes Go.ChangeAt Go.RowKit

/-- A slice of n words that came in. -/
def U32s (w : World) (l : Option Addr) (n : Nat) : Prop := n = 0 ∨ ∃ a, l = some a ∧ a.block < w.heap.size ∧ ∀ i, i < n → ∃ x : Int, w.cell? (a.add i) = some (.int .u32 x)
theorem add_block' (a : Addr) (n : Nat) : (a.add n).block = a.block := by unfold Addr.add; split <;> rfl
theorem U32s.ext {w w' : World} {l : Option Addr} {n : Nat} (h : U32s w l n) (he : Ext w w' (fun _ => False)) : U32s w' l n := by
  rcases h with h | ⟨a, rfl, hlt, hc⟩
  · exact .inl h
  · refine .inr ⟨a, rfl, Nat.lt_of_lt_of_le hlt he.size, fun i hi => ?_⟩
    obtain ⟨x, hx⟩ := hc i hi
    exact ⟨x, by rw [← hx]; exact cell_ext he (by rw [add_block']; exact hlt) (fun h => h)⟩

section
variable {H : Type} {enc : TypeId × Value → H}
theorem open_words {W : World} {v : Value} {d : DataW H} {p : List MemPlace} {r : Reach} {b0 : Nat} (hv : Value.okWide Try.prog W r b0 67 v)
    (h : DataW.Trod enc Try.prog W 0 (fun _ => true) true 67 v d p) : ∃ (l : Option Addr) (n c : Nat), v = .slice l n c ∧ U32s W l n := by
  rcases open_sl (e := 23) (by kernel_rfl) hv h with rfl | ⟨a, len, cap, rfl, hl, hm, hi⟩
  · exact ⟨none, 0, 0, rfl, .inl rfl⟩
  · refine ⟨some a, len, cap, rfl, ?_⟩
    have hc1 : Try.prog.cellsOf 23 = 1 := by kernel_rfl
    rw [hc1] at hi
    have key : ∀ i, i < len → ∃ x : Int, W.cell? (a.add i) = some (.int .u32 x) := by
      intro i him
      obtain ⟨cs, n, y, hcl, hat, hy⟩ := hi i him
      obtain ⟨x, hx, _⟩ := DataW.trod_int (k := .u32) (by kernel_rfl) hy
      refine ⟨x, ?_⟩
      have := hat 0 (by omega)
      rw [Nat.mul_one, Nat.add_zero, hx] at this
      exact this
    by_cases h0 : len = 0
    · exact .inl h0
    · obtain ⟨x, hx⟩ := key 0 (by omega)
      have := cell_lt hx
      rw [add_block'] at this
      exact .inr ⟨a, rfl, this, key⟩
theorem open_string {W : World} {v : Value} {d : DataW H} {p : List MemPlace} {r : Reach} {b0 : Nat} (hv : Value.okWide Try.prog W r b0 9 v)
    (h : DataW.Trod enc Try.prog W 0 (fun _ => true) true 9 v d p) : ∃ l : List UInt8, v = .string (mkS l) := by
  obtain ⟨s, rfl⟩ := okWide_string (by kernel_rfl) hv
  exact ⟨s.data.toList, by rw [← mkS_of]⟩
end

theorem wrap_any (x : Int) : ∃ b : UInt8, IntKind.wrap .u8 x = (b.toNat : Int) := by
  refine ⟨UInt8.ofNat (x % 256).toNat, ?_⟩
  rw [wrap_u8', UInt8.toNat_ofNat']
  omega

section
variable {w : World} {Q : Value → World → Prop}

/-- make([]byte, n) -/
theorem mk_b {k k' : IntKind} {n : Int} {K : Value → World → Prop} (h0 : 0 ≤ n) (h1 : n ≤ 1000000)
    (hK : ∀ b w', b = w.heap.size → At w' b (by_ (List.replicate n.toNat 0)) 5 → Ext w w' (fun _ => False) → w'.heap.size = w.heap.size + 1 → K (.slice (some ⟨b, 0, none⟩) n.toNat n.toNat) w') :
    rv Try.prog (Instr.makeSlice 26 (.int k n) (.int k' n)) w K := by
  refine mk_i 5 1 h0 (by omega) fun b w' hb a e z => hK b w' hb ?_ e z
  have hz : zeroL Try.prog 5 = [.int .u8 0] := by kernel_rfl
  rw [hz, zeros_one] at a
  rw [show by_ (List.replicate n.toNat 0) = List.replicate n.toNat (Value.int .u8 0) by simp [by_]]
  exact a

theorem page_k18 {U : World} {wl : Option Addr} {wn wc b i : Nat} {l : List UInt8} {st x : Int} {T : TypeId} {next : (Int × Unit) → World → Prop} (ha : At w b (by_ l) T) (hl : l.length = 256) (hi : i < 64) (hb : U.heap.size ≤ b) (e0 : Ext U w (fun _ => False))
    (hn : ∀ l' w', l'.length = 256 → At w' b (by_ l') T → Ext U w' (fun _ => False) → next (((i + 1 : Nat) : Int), ()) w') :
    W.law33_Page_k18 wl wn wc st (some ⟨b, 0, none⟩) 256 256 (i : Int) x next w Q := by
  unfold W.law33_Page_k18
  refine LoopW.nat 4 (fun j y w' => ∃ l', y = ((j : Int), ()) ∧ l'.length = 256 ∧ At w' b (by_ l') T ∧ Ext U w' (fun _ => False)) ⟨l, rfl, hl, ha, e0⟩ ?_
  rintro j y w1 nxt hj ⟨l', rfl, hl', a1, e1⟩ hnxt
  dsimp only
  by_cases hlt : j < 4
  case neg =>
    rw [decide_eq_false (by omega), br_false, wrap_i64 (by omega) (by omega)]
    exact hn l' w1 hl' a1 e1
  rw [decide_eq_true (by omega), br_true]
  rw [wrap_i64 (x := 8 * (j : Int)) (by omega) (by omega), wrap_u64 (by omega) (by omega), wrap_i64 (x := 4 * (i : Int)) (by omega) (by omega), wrap_i64 (x := 4 * (i : Int) + (j : Int)) (by omega) (by omega)]
  refine rq_r (shr_i (by omega) (by show 8 * (j : Int) ≤ ((32 : Nat) : Int); omega)) ?_
  rw [fI_int]
  refine ix_sl 1 5 (by omega) (by omega) ?_
  rw [fA_ptr, add_mk, Nat.zero_add, Nat.mul_one]
  obtain ⟨z, hz⟩ := wrap_any (Int.fdiv x (2 ^ (8 * (j : Int)).toNat))
  rw [hz]
  refine st_i a1 (by rw [by_length]; omega) fun w2 a2 e2 z2 => ?_
  rw [by_set] at a2
  rw [wrap_i64 (by omega) (by omega)]
  exact hnxt hlt _ _ ⟨_, rfl, by simpa using hl', a2, e1.trans e2 (fun _ _ h => h) (fun b' hb' h => by omega)⟩

theorem page_k11 {U : World} {wl : Option Addr} {wn wc b i : Nat} {l : List UInt8} {st x : Int} {T : TypeId} {next : (Int × Unit) → World → Prop} (ha : At w b (by_ l) T) (hl : l.length = 256) (hi : i < 64) (hb : U.heap.size ≤ b) (e0 : Ext U w (fun _ => False))
    (hn : ∀ l' w', l'.length = 256 → At w' b (by_ l') T → Ext U w' (fun _ => False) → next (((i + 1 : Nat) : Int), ()) w') :
    W.law33_Page_k11 wl wn wc st (some ⟨b, 0, none⟩) 256 256 (i : Int) x next w Q := by
  unfold W.law33_Page_k11
  refine br_of (fun _ => page_k18 ha hl hi hb e0 hn) (fun _ => br_of (fun _ => page_k18 ha hl hi hb e0 hn) (fun _ => br_of (fun _ => page_k18 ha hl hi hb e0 hn) (fun _ => page_k18 ha hl hi hb e0 hn)))

theorem page_k8 {U : World} {wl : Option Addr} {wn wc b i : Nat} {l : List UInt8} {st k : Int} {T : TypeId} {next : (Int × Unit) → World → Prop} (hU : U32s U wl wn) (hk : 0 ≤ k) (ha : At w b (by_ l) T) (hl : l.length = 256) (hi : i < 64) (hb : U.heap.size ≤ b) (e0 : Ext U w (fun _ => False))
    (hn : ∀ l' w', l'.length = 256 → At w' b (by_ l') T → Ext U w' (fun _ => False) → next (((i + 1 : Nat) : Int), ()) w') :
    W.law33_Page_k8 wl wn wc st (some ⟨b, 0, none⟩) 256 256 (i : Int) k next w Q := by
  unfold W.law33_Page_k8
  refine br_of (fun h => ?_) (fun _ => page_k11 ha hl hi hb e0 hn)
  simp only [decide_eq_true_eq] at h
  rcases hU.ext e0 with h0 | ⟨a, rfl, _, hc⟩
  · omega
  · refine ix_sl 1 23 (by omega) h ?_
    rw [fA_ptr, Nat.mul_one]
    obtain ⟨x, hx⟩ := hc k.toNat (by omega)
    refine ld_c hx ?_
    rw [fI_int]
    exact page_k11 ha hl hi hb e0 hn

theorem page_c {wl : Option Addr} {wn wc : Nat} {st : Int} (hU : U32s w wl wn) (hs0 : 0 ≤ st) (hs1 : st ≤ 255) (hQ : ∀ l w', l.length = 256 → Ext w w' (fun _ => False) → Q (.string (mkS l)) w') :
    CallE Try.prog 32 #[.slice wl wn wc, .int .u8 st] w Q := by
  apply C.law33_Page
  unfold W.law33_Page
  refine mk_b (by omega) (by omega) fun b w1 hb a1 e1 z1 => ?_
  rw [fS_slice]
  rw [show (256 : Int).toNat = 256 from rfl] at *
  refine LoopW.nat 64 (fun i y w' => ∃ l, y = ((i : Int), ()) ∧ l.length = 256 ∧ At w' b (by_ l) 5 ∧ Ext w w' (fun _ => False)) ⟨_, rfl, List.length_replicate, a1, e1⟩ ?_
  rintro i y w2 next hi ⟨l, rfl, hl, a2, e2⟩ hnext
  dsimp only
  have fin : W.law33_Page_k22 (some ⟨b, 0, none⟩) 256 256 w2 Q := by
    unfold W.law33_Page_k22
    refine bs_str (l := l) (.inr ⟨_, rfl, fun j hj => by rw [add_mk, a2.cell, Nat.zero_add]⟩) hl ?_
    rw [fT_str]
    exact hQ l w2 hl e2
  by_cases hlt : i < 64
  case neg =>
    rw [decide_eq_false (by omega), br_false]
    exact fin
  rw [decide_eq_true (by omega), br_true]
  have hn : ∀ l' w', l'.length = 256 → At w' b (by_ l') 5 → Ext w w' (fun _ => False) → next (((i + 1 : Nat) : Int), ()) w' := fun l' w' h1 h2 h3 => hnext hlt _ _ ⟨l', rfl, h1, h2, h3⟩
  refine br_of (fun _ => br_of (fun _ => ?_) (fun _ => page_k8 hU (by omega) a2 hl hlt (by omega) e2 hn)) (fun _ => fin)
  rw [wrap_i64 (x := st) (by omega) (by omega), wrap_i64 (x := 1 + st) (by omega) (by omega)]
  refine rem_i (by omega) ?_
  rw [fI_int]
  exact page_k8 hU (Int.tmod_nonneg _ (by omega)) a2 hl hlt (by omega) e2 hn

end
end Go.Proofs.Ytpgekajgbkbpkaa.Pz
