/-
  An image with its pages: what Decode returns. No condition beyond those stated.
-/
import Derived.Test.YtpgekajgbkbpkaaImI
import Derived.Test.YtpgekajgbkbpkaaPzD
import Derived.Test.YtpgekajgbkbpkaaShf
namespace Go.Proofs.Ytpgekajgbkbpkaa.Im
open Go Go.Ev Go.Proofs

/-- One page of a body, and what follows it; k pages stand ahead of it. -/
def stepB (l : List UInt8) (k : Nat) : Option (Pg × List UInt8) :=
  if l.length < 6 then none else if k = 512 then none else if num (l.take 4) > 2147483647 then none else if num (sub l 4 6) > (l.drop 6).length then none
  else if (Pz.back (Pz.expP ((l.drop 6).take (num (sub l 4 6)))) ((l.drop 6).take (num (sub l 4 6)))).2 ≠ 0 then none
  else some ((((num (l.take 4) : Nat) : Int), (Pz.back (Pz.expP ((l.drop 6).take (num (sub l 4 6)))) ((l.drop 6).take (num (sub l 4 6)))).1), (l.drop 6).drop (num (sub l 4 6)))
def parse : Nat → List UInt8 → List Pg → Option (List Pg)
  | 0, l, acc => if l = [] then some acc else none
  | f + 1, l, acc => if l = [] then some acc else match stepB l acc.length with
    | none => none
    | some (p, r) => parse f r (acc ++ [p])
theorem parse_nil (f : Nat) (acc : List Pg) : parse f [] acc = some acc := by cases f <;> simp [parse]
theorem parse_succ {f : Nat} {l : List UInt8} {acc : List Pg} (h : l ≠ []) : parse (f + 1) l acc = match stepB l acc.length with
    | none => none
    | some (p, r) => parse f r (acc ++ [p]) := by
  rw [parse, if_neg h]
def decI (ss : List (List UInt8)) : Sum Int (List UInt8 × Nat × List Pg) :=
  match ss with
  | [] => .inl 3
  | s0 :: r => if ¬ (∀ s ∈ s0 :: r, s.length = 64) then .inl 3 else if (decH s0).2 ≠ 0 then .inl (decH s0).2 else if r.length * 64 < num (sub s0 44 48) then .inl 4
    else if (crc (r.flatten.take (num (sub s0 44 48)))).toNat ≠ num (sub s0 48 52) then .inl 5
    else match parse (r.flatten.take (num (sub s0 44 48))).length (r.flatten.take (num (sub s0 44 48))) [] with
      | none => .inl 3
      | some ps => if validP ps = true then .inr (sub s0 12 44, num (sub s0 4 12), ps) else .inl 3
theorem decH_ok {l : List UInt8} (h : (decH l).2 = 0) : (decH l).1 = hdrC (num (sub l 4 12)) (sub l 12 44) (num (sub l 44 48)) (num (sub l 48 52)) := by
  unfold decH at h ⊢
  split at h
  · cases h
  split at h
  · cases h
  split at h
  · cases h
  split at h
  · cases h
  rename_i h1 h2 h3 h4
  rw [if_neg h1, if_neg h2, if_neg h3, if_neg h4]
theorem decH_len (l : List UInt8) : (decH l).1.length = 35 := by
  unfold decH
  split
  · rfl
  split
  · rfl
  split
  · rfl
  split
  · rfl
  rename_i h1 h2 h3 h4
  exact hdrC_length (sub_length (by omega))
theorem decH_one (l : List UInt8) : ∀ v ∈ (decH l).1, one v = true := by
  unfold decH
  split
  · exact hdrC_one _ _ _ _
  split
  · exact hdrC_one _ _ _ _
  split
  · exact hdrC_one _ _ _ _
  split
  · exact hdrC_one _ _ _ _
  exact hdrC_one _ _ _ _
theorem flatten_take : ∀ (r : List (List UInt8)) (k : Nat), (∀ s ∈ r, s.length = 64) → (r.take k).flatten = r.flatten.take (64 * k)
  | [], k, _ => by simp
  | s :: r, 0, _ => by simp
  | s :: r, k + 1, h => by
    have hs := h s (.head _)
    rw [List.take_succ_cons, List.flatten_cons, List.flatten_cons, flatten_take r k (fun x hx => h x (.tail _ hx)), List.take_append, hs]
    rw [List.take_of_length_le (l := s) (by omega), show 64 * (k + 1) - 64 = 64 * k by omega]
theorem flatten_len : ∀ (r : List (List UInt8)), (∀ s ∈ r, s.length = 64) → r.flatten.length = 64 * r.length
  | [], _ => rfl
  | s :: r, h => by
    rw [List.flatten_cons, List.length_append, flatten_len r (fun x hx => h x (.tail _ hx)), h s (.head _), List.length_cons]
    omega
theorem join_flat (xs : List (List UInt8)) : Lib.join xs [] = xs.flatten := by
  cases xs with
  | nil => rfl
  | cons x r => rw [Lib.join_cons]; simp [Lib.joinTail]
theorem buildI {bd : List UInt8} {g : Nat} {pa : Option Addr} {n c : Nat} (hbd : bd.length = 32) : ∀ w, (Instr.build 45 #[(0, .agg (by_ bd).toArray), (1, .int .u64 (g : Int)), (2, .slice pa n c)]).run Try.prog w = .ok (.agg (imgC bd g pa n c).toArray) w := by
  refine bld_run (structFs Try.prog 45) #[(0, 32), (32, 1), (33, 1)] (zeroT Try.prog 45) (imgC zb 0 none 0 0) (by kernel_rfl) (by kernel_rfl) (by kernel_rfl) (by kernel_rfl) ?_
  have l1 : (imgC zb 0 none 0 0).length = 34 := rfl
  have l2 : ∀ g' pa' n' c', (imgC bd g' pa' n' c').length = 34 := fun _ _ _ _ => imgC_length hbd
  have s1 : splice (imgC zb 0 none 0 0) 0 (by_ bd) = imgC bd 0 none 0 0 := by
    rw [splice_eq _ _ _ (by rw [l1, by_length, hbd]; omega), by_length, hbd]
    rfl
  have s2 : splice (imgC bd 0 none 0 0) 32 [.int .u64 (g : Int)] = imgC bd g none 0 0 := splice_end (by rw [by_length, hbd])
  have s3 : splice (imgC bd g none 0 0) 33 [.slice pa n c] = imgC bd g pa n c := by
    have e : ∀ v, (by_ bd ++ [.int .u64 (g : Int), v] : List Value) = (by_ bd ++ [.int .u64 (g : Int)]) ++ v :: [] := by intro v; simp
    unfold imgC
    rw [e, splice_end (by rw [List.length_append, by_length, hbd]; rfl), ← e]
  rw [fill_cons 0 (by_ bd) (by rw [by_length, hbd]; rfl) rfl (by rw [l1, by_length, hbd]; omega), s1]
  rw [fill_cons 32 [.int .u64 (g : Int)] rfl rfl (by rw [l2]; show 32 + 1 ≤ 34; omega), s2]
  rw [fill_cons 33 [.slice pa n c] rfl rfl (by rw [l2]; show 33 + 1 ≤ 34; omega), s3]
  rfl

section
variable {U w : World} {Q : Value → World → Prop}

theorem join_c {b o c : Nat} {xs : List (List UInt8)} (hr : ∀ j x, xs[j]? = some x → w.cell? ⟨b, o + j, none⟩ = some (.string (mkS x))) (hb : b < w.heap.size) (hc : xs.length ≤ c) (hn : xs.length ≤ 1000000) (hl : xs.flatten.length ≤ 100000000)
    (hQ : ∀ w', Ext w w' (fun _ => False) → Q (.string (mkS xs.flatten)) w') : CallE Try.prog 36 #[.slice (some ⟨b, o, none⟩) xs.length c, .string (mkS [])] w Q := by
  have hm : (xs.map mkS).map (·.data.toList) = xs := by
    rw [List.map_map]
    conv => rhs; rw [← List.map_id xs]
    apply List.map_congr_left
    intro x _
    simp [mkS]
  have := Try.strings_Join b o c (xs.map mkS) (mkS []) w (fun j x hx => by
    rw [List.getElem?_map] at hx
    cases hy : xs[j]? with
    | none => rw [hy] at hx; cases hx
    | some y =>
      rw [hy] at hx
      cases hx
      exact hr j y hy) hb (by rw [List.length_map]; omega) (by rw [List.length_map]; exact hc) (by
      rw [hm, show (mkS []).data.toList = [] from rfl, join_flat]; omega)
  rw [List.length_map] at this
  refine Calls.mono this ?_
  rintro e w' ⟨rfl, hbw⟩
  refine ⟨_, rfl, ?_⟩
  have h2 := hQ w' ⟨hbw.os, hbw.tape, hbw.output, hbw.size, fun b hb _ => hbw.block b hb⟩
  rw [hm, show (mkS []).data.toList = [] from rfl, join_flat]
  exact h2

theorem decodeBody_c {l : List UInt8} (hl : l.length ≤ 10000000) (h0 : parse l.length l [] = none → ∀ w', Ext w w' (fun _ => False) → Q (.tuple #[.slice none 0 0, .bool false]) w')
    (h1 : ∀ ps, parse l.length l [] = some ps → ∀ a c w', Sl w' 52 2 a ps.length c (ps.flatMap pgC) → (∀ b, a = some ⟨b, 0, none⟩ → w.heap.size ≤ b) → Ext w w' (fun _ => False) → Q (.tuple #[.slice a ps.length c, .bool (validP ps)]) w') :
    CallE Try.prog 37 #[.string (mkS l)] w Q := by
  apply C.image_decodeBody
  unfold W.image_decodeBody
  refine LoopW.nat l.length (fun j x w' => ∃ r a c ps, x = (mkS r, (a, ps.length, c), ()) ∧ r.length + j ≤ l.length ∧ ps.length ≤ 512 ∧ parse (l.length - j) r ps = parse l.length l [] ∧ Sl w' 52 2 a ps.length c (ps.flatMap pgC) ∧ (∀ b, a = some ⟨b, 0, none⟩ → w.heap.size ≤ b) ∧ Ext w w' (fun _ => False))
    ⟨l, none, 0, [], rfl, by omega, by simp, by rw [Nat.sub_zero], .inl ⟨rfl, rfl, rfl, rfl⟩, (fun b hb => by cases hb), Ext.refl _ _⟩ ?_
  rintro j x w1 next hj ⟨r, a, c, ps, rfl, hrl, hp5, hpe, s1, f1, e1⟩ hnext
  dsimp only
  rw [mkS_size]
  by_cases hr0 : r.length = 0
  · rw [decide_eq_false (by omega), br_false]
    have : r = [] := List.eq_nil_of_length_eq_zero hr0
    subst this
    rw [parse_nil] at hpe
    unfold W.image_decodeBody_k15
    refine validPages_c s1.reads rfl fun w2 e2 => fb ?_
    exact h1 ps hpe.symm a c w2 (s1.ext e2 (fun _ _ h => h)) f1 (e1.tr e2)
  have hrne : r ≠ [] := by rintro rfl; exact hr0 rfl
  rw [decide_eq_true (by omega), br_true]
  have hlt : j < l.length := by omega
  obtain ⟨f, hf⟩ : ∃ f, l.length - j = f + 1 := ⟨l.length - j - 1, by omega⟩
  rw [hf, parse_succ hrne] at hpe
  have bad : stepB r ps.length = none → ∀ w', Ext w1 w' (fun _ => False) → Q (.tuple #[.slice none 0 0, .bool false]) w' := by
    intro hn w' e'
    rw [hn] at hpe
    exact h0 hpe.symm w' (e1.tr e')
  by_cases h6 : r.length < 6
  · rw [decide_eq_true (by omega), br_true]
    exact bad (by unfold stepB; rw [if_pos h6]) w1 (Ext.refl _ _)
  rw [decide_eq_false (by omega), br_false]
  by_cases h5 : ps.length = 512
  · rw [show ((((ps.length : Nat) : Int) : Int) == 512) = true by rw [h5]; rfl, br_true]
    exact bad (by unfold stepB; rw [if_neg h6, if_pos h5]) w1 (Ext.refl _ _)
  rw [show ((((ps.length : Nat) : Int) : Int) == 512) = false by rw [beq_eq_false_iff_ne]; omega, br_false]
  refine qT (s_hi (by omega) (by omega)) ?_
  refine number_c (l := r.take 4) (by rw [List.length_take]; omega) (fi ?_)
  refine qT (s_lh (by omega) (by omega) (by omega)) ?_
  refine number_c (l := sub r 4 6) (by rw [sub_length (by omega)]; omega) (fi ?_)
  refine qT (s_lo (by omega) (by omega)) ?_
  change br (decide (((num (r.take 4) : Nat) : Int) > 2147483647)) _ _
  by_cases hn : num (r.take 4) > 2147483647
  · rw [decide_eq_true (by omega), br_true]
    exact bad (by unfold stepB; rw [if_neg h6, if_neg h5, if_pos hn]) w1 (Ext.refl _ _)
  rw [decide_eq_false (by omega), br_false]
  have hm2 : num (sub r 4 6) < 65536 := by
    have := num_lt (sub r 4 6)
    rw [sub_length (by omega)] at this
    exact this
  rw [wrap_i64 (x := ((num (sub r 4 6) : Nat) : Int)) (by omega) (by omega)]
  change br (decide (((num (sub r 4 6) : Nat) : Int) > (((mkS (r.drop 6)).size : Nat) : Int))) _ _
  rw [mkS_size]
  by_cases hm : num (sub r 4 6) > (r.drop 6).length
  · rw [decide_eq_true (by omega), br_true]
    exact bad (by unfold stepB; rw [if_neg h6, if_neg h5, if_neg hn, if_pos hm]) w1 (Ext.refl _ _)
  rw [decide_eq_false (by omega), br_false]
  generalize hmm : num (sub r 4 6) = m at *
  change rq _ (Instr.sliceAt 9 (.string (mkS (r.drop 6))) none (some (.int .i64 (m : Int))) none) _ _
  refine qT (s_hi (by omega) (by omega)) ?_
  rw [Int.toNat_natCast]
  refine Pz.decompress_c (by rw [List.length_take]; omega) fun w2 e2 => ⟨_, _, rfl, ?_⟩
  generalize hbk : Pz.back (Pz.expP ((r.drop 6).take m)) ((r.drop 6).take m) = bk at *
  by_cases hz : bk.2 = 0
  case neg =>
    rw [show (bk.2 != 0) = true by rw [bne_iff_ne]; exact hz, br_true]
    exact bad (by unfold stepB; rw [if_neg h6, if_neg h5, if_neg hn, hmm, if_neg hm, hbk, if_pos hz]) w2 e2
  rw [show (bk.2 != 0) = false by rw [hz]; rfl, br_false]
  change rq _ (Instr.sliceAt 9 (.string (mkS (r.drop 6))) (some (.int .i64 (m : Int))) none none) _ _
  refine qT (s_lo (by omega) (by omega)) ?_
  rw [Int.toNat_natCast, wrap_i64 (x := ((num (r.take 4) : Nat) : Int)) (by omega) (by omega)]
  have hst : stepB r ps.length = some ((((num (r.take 4) : Nat) : Int), bk.1), (r.drop 6).drop m) := by
    unfold stepB
    rw [if_neg h6, if_neg h5, if_neg hn, hmm, if_neg hm, hbk, if_neg (by simp [hz])]
  rw [hst] at hpe
  dsimp only at hpe
  refine al_i fun tb w3 htb a3 e3 z3 => ?_
  refine ap_i 52 2 (vs := pgC (((num (r.take 4) : Nat) : Int), bk.1)) ((s1.ext e2 (fun _ _ h => h)).ext e3 (fun _ _ h => h)) (.inr ⟨_, rfl, fun k hk => by rw [add_mk, a3.cell, Nat.zero_add]; rfl⟩) rfl (pgC_one _) (by omega) fun a4 c4 w4 s4 f4 g4 e4 => fs ?_
  have hs1 := e1.size
  have hs2 := e2.size
  have hs3 := e3.size
  refine hnext hlt _ _ ⟨(r.drop 6).drop m, a4, c4, ps ++ [(((num (r.take 4) : Nat) : Int), bk.1)], ?_, ?_, ?_, ?_, ?_, ?_, ?_⟩
  · rw [List.length_append]; rfl
  · rw [List.length_drop, List.length_drop]; omega
  · rw [List.length_append]; show ps.length + 1 ≤ 512; omega
  · rw [show l.length - (j + 1) = f by omega]; exact hpe
  · rw [List.length_append, List.flatMap_append]
    simpa using s4
  · intro b hb
    rcases f4 b hb with hx | hx
    · exact f1 b hx
    · omega
  · exact ((e1.tr e2).tr e3).trans e4 (fun _ _ h => h) (fun b hb hx => by have := f1 b hx; omega)
end
end Go.Proofs.Ytpgekajgbkbpkaa.Im
