/-
  Page compression: the statements PagezipRoundTrip, PagezipZeroTail and PagezipCanonical over the code. No condition beyond those stated.
-/
import Derived.Test.YtndgldmlimmmjaaPzL
namespace Go.Proofs.Ytndgldmlimmmjaa.Pz
open Go Go.Ev Go.Proofs Go.ChangeShapes Go.WideShapes Go.ChangeAt Go.RowKit

section
variable {U : World} {Q : Value → World → Prop}

theorem roundTrip_c {wl : Option Addr} {wn wc : Nat} {st : Int} (hU : U32s U wl wn) (hs0 : 0 ≤ st) (hs1 : st ≤ 255) (hQ : ∀ w', Ext U w' (fun _ => False) → Q (.bool true) w') :
    CallE Try.prog 4 #[.slice wl wn wc, .int .u8 st] U Q := by
  apply C.law33_PagezipRoundTrip
  unfold W.law33_PagezipRoundTrip
  refine br_of (fun _ => awake_fin hQ (Ext.refl _ _)) (fun _ => ?_)
  refine page_c hU hs0 hs1 fun p w1 hp e1 => ?_
  rw [fT_str]
  refine compress_c hp fun w2 e2 => ⟨_, _, rfl, ?_⟩
  have hcl := comp_length hp
  refine decompress_c (by omega) fun w3 e3 => ⟨_, _, rfl, ?_⟩
  rw [back_comp hp, show ((0 : Int) == 0) = true from rfl, br_true, br_true]
  refine rq_r s_eq ?_
  rw [fB_bool, decide_eq_true rfl, br_true, mkS_size, decide_eq_true (by omega), br_true, decide_eq_true (by omega), br_true]
  exact awake_fin hQ ((e1.tr e2).tr e3)

/- Zeros at the end. -/
theorem run_zeros (d : List Nat) : ∀ n, (run d (List.replicate n 0)).2.2 = []
  | 0 => rfl
  | n + 1 => by
    rw [List.replicate_succ]
    simp only [run]
    have : body d 0 = [] := by unfold body tag; simp
    rw [this, show learn d 0 = d from rfl, run_zeros d n]
    rfl
theorem run_app : ∀ (a b d : List Nat), (run d (a ++ b)).2.2 = (run d a).2.2 ++ (run (run d a).1 b).2.2
  | [], b, d => rfl
  | w :: a, b, d => by simp only [List.cons_append, run, run_app a b, List.append_assoc]
theorem word_zero {n : Nat} : word (List.replicate n 0) = 0 := by
  have h : ∀ i, (List.replicate n (0 : UInt8)).getD i 0 = 0 := by
    intro i
    rw [List.getD_eq_getElem?_getD, List.getElem?_replicate]
    split <;> rfl
  simp only [word, h]
  rfl
theorem word_take {p : List UInt8} {n : Nat} (h : 4 ≤ n) : word (p.take n) = word p := by
  have hg : ∀ i, i < 4 → (p.take n).getD i 0 = p.getD i 0 := by
    intro i hi
    rw [List.getD_eq_getElem?_getD, List.getD_eq_getElem?_getD, List.getElem?_take, if_pos (by omega)]
  simp only [word, hg 0 (by omega), hg 1 (by omega), hg 2 (by omega), hg 3 (by omega)]
theorem words_zeroed {p : List UInt8} (hp : p.length = 256) {k : Nat} (hk : k ≤ 64) : words (p.take (4 * k) ++ List.replicate (256 - 4 * k) 0) = (words p).take k ++ List.replicate (64 - k) 0 := by
  apply List.ext_getElem
  · simp [words]; omega
  · intro i h1 h2
    simp only [words, List.length_map, List.length_range] at h1
    have hl : (p.take (4 * k)).length = 4 * k := by simp; omega
    by_cases hik : i < k
    · rw [List.getElem_append_left (by simp [words]; omega), List.getElem_take]
      simp only [words, List.getElem_map, List.getElem_range]
      rw [List.drop_append_of_le_length (by omega), List.drop_take]
      have h4 : 4 ≤ 4 * k - 4 * i := by omega
      have hlen : (List.take (4 * k - 4 * i) (List.drop (4 * i) p)).length = 4 * k - 4 * i := by simp; omega
      rw [← word_take (p := _ ++ _) h4, List.take_append_of_le_length (by omega), List.take_take, Nat.min_self, word_take h4]
    · rw [List.getElem_append_right (by simp [words]; omega), List.getElem_replicate]
      simp only [words, List.getElem_map, List.getElem_range]
      rw [List.drop_append, List.drop_eq_nil_of_le (by omega), List.nil_append, List.drop_replicate]
      exact word_zero
theorem zeroed_le {p : List UInt8} (hp : p.length = 256) {k : Nat} (hk : k ≤ 64) : (comp (p.take (4 * k) ++ List.replicate (256 - 4 * k) 0)).length ≤ (comp p).length := by
  have hb : (run d0 (words (p.take (4 * k) ++ List.replicate (256 - 4 * k) 0))).2.2.length ≤ (run d0 (words p)).2.2.length := by
    rw [words_zeroed hp hk, run_app, run_zeros, List.append_nil]
    have : words p = (words p).take k ++ (words p).drop k := (List.take_append_drop k _).symm
    conv => rhs; rw [this, run_app]
    simp
  have h1 : ∀ q : List UInt8, q.length = 256 → (comp q).length = if 17 + (run d0 (words q)).2.2.length > 256 then 257 else 17 + (run d0 (words q)).2.2.length := by
    intro q hq
    unfold comp
    split
    · simp [hq]
    · simp [pk_length]; omega
  rw [h1 p hp, h1 _ (by simp; omega)]
  split <;> split <;> omega

theorem zeroTail_c {wl : Option Addr} {wn wc : Nat} {st at_ : Int} (hU : U32s U wl wn) (hs0 : 0 ≤ st) (hs1 : st ≤ 255) (hQ : ∀ w', Ext U w' (fun _ => False) → Q (.bool true) w') :
    CallE Try.prog 9 #[.slice wl wn wc, .int .u8 st, .int .i64 at_] U Q := by
  apply C.law33_PagezipZeroTail
  unfold W.law33_PagezipZeroTail
  refine br_of (fun _ => awake_fin hQ (Ext.refl _ _)) (fun _ => ?_)
  refine page_c hU hs0 hs1 fun p w1 hp e1 => ?_
  rw [fT_str]
  refine mod_c (by omega) (by omega) ?_
  rw [fI_int]
  have hm := modv_bd (v := at_) (n := 65) (by omega)
  obtain ⟨k, hk⟩ : ∃ k : Nat, modv at_ 65 = (k : Int) := ⟨(modv at_ 65).toNat, by omega⟩
  rw [hk] at hm ⊢
  have h4 : IntKind.wrap .i64 (4 * (k : Int)) = ((4 * k : Nat) : Int) := by rw [wrap_i64 (by omega) (by omega)]; push_cast; rfl
  have h5 : IntKind.wrap .i64 (256 - ((4 * k : Nat) : Int)) = ((256 - 4 * k : Nat) : Int) := by rw [wrap_i64 (by omega) (by omega)]; omega
  rw [h4, h5]
  refine ⟨fun _ => True, trivial, ?_⟩
  refine rqS_r (s_hi (by omega) (by omega)) ?_
  rw [fT_str, Int.toNat_natCast]
  refine mk_b (by omega) (by omega) fun b w2 hb a2 e2 z2 => ?_
  rw [fS_slice, Int.toNat_natCast] at *
  refine ⟨trivial, ?_⟩
  refine bs_str (l := List.replicate (256 - 4 * k) 0) (.inr ⟨_, rfl, fun j hj => by rw [add_mk, a2.cell, Nat.zero_add]⟩) List.length_replicate ?_
  rw [fT_str]
  refine ⟨trivial, ?_⟩
  refine rqS_r (s_add (by simp; omega)) ?_
  rw [fT_str]
  refine compress_c hp fun w3 e3 => ⟨_, _, rfl, ?_⟩
  refine compress_c (by simp; omega) fun w4 e4 => ⟨_, _, rfl, ?_⟩
  have hle := zeroed_le hp (show k ≤ 64 by omega)
  rw [show ((0 : Int) == 0) = true from rfl, br_true, br_true, mkS_size, mkS_size, decide_eq_true (by omega), br_true]
  exact awake_fin hQ (((e1.tr e2.of_drew).tr e3).tr e4)
end
end Go.Proofs.Ytndgldmlimmmjaa.Pz
