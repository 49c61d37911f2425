/-
  The statements' example over the code; the statements about the checksum. No condition beyond those stated.
-/
import Derived.Test.YtpgekajgbkbpkaaImL
import Derived.Test.YtpgekajgbkbpkaaByt
namespace Go.Proofs.Ytpgekajgbkbpkaa.Im
open Go Go.Ev Go.Proofs
theorem crc_example : (crc [49, 50, 51, 52, 53, 54, 55, 56, 57]).toNat = 3421780262 := by decide +kernel
section
variable {U w : World} {Q : Value → World → Prop}

theorem awake_c (hQ : ∀ w', Ext w w' (fun _ => False) → Q (.bool true) w') : CallE Try.prog 12 #[] w Q := by
  apply C.law34_awake
  unfold W.law34_awake
  refine encode_c (bd := zb) (g := 5) (pa := none) (n := 0) (c := 0) (ps := []) rfl (.inl rfl) rfl (fun h => absurd okP_nil h) fun _ sb c1 w1 s1 f1 e1 => ⟨_, _, _, _, rfl, ?_⟩
  have hdec := decI_secs (g := 5) (bd := zb) (ps := []) (more := []) rfl (by omega) okP_nil (by simp)
  rw [List.append_nil] at hdec
  obtain ⟨sp, atS, hl, _, hnc⟩ := s1.at_
  have hlen : (secs 5 zb []).length = 1 := by kernel_rfl
  refine decode_c s1.reads rfl hnc atS.lt (by rw [hlen]; omega) (fun e he => by rw [hdec] at he; cases he) fun bd g ps hi a2 c2 w2 s2 f2 e2 => ⟨_, _, rfl, ?_⟩
  rw [hdec] at hi
  cases hi
  refine al_st 34 (imgC_length rfl) (imgC_one _ _ _ _ _) fun xb w3 hxb a3 e3 z3 => ?_
  refine decode_nil fun w4 e4 => ⟨_, _, rfl, ?_⟩
  refine al_st 34 (imgC_length rfl) (imgC_one _ _ _ _ _) fun yb w5 hyb a5 e5 z5 => ?_
  refine checksum_c (l := [49, 50, 51, 52, 53, 54, 55, 56, 57]) (by show 9 ≤ _; omega) fun w6 e6 => fi ?_
  rw [crc_example, hlen]
  simp only [add_mk, Nat.zero_add]
  refine br_pos rfl (br_pos rfl (br_pos rfl (br_pos rfl (br_pos rfl ?_))))
  have a6 := ((a3.ext e4 (fun h => h)).ext e5 (fun h => h)).ext e6 (fun h => h)
  refine ldI a6 (imgC_32 rfl) ?_
  refine br_pos rfl ?_
  refine ldL a6 (imgC_33 rfl) ?_
  exact hQ w6 (((((e1.tr e2).tr e3).tr e4).tr e5).tr e6)
theorem awake_fin (e0 : Ext U w (fun _ => False)) (hQ : ∀ w', Ext U w' (fun _ => False) → Q (.bool true) w') : CallE Try.prog 12 #[] w fun v w' => fB v fun b => Q (.bool b) w' :=
  awake_c fun w' e => fb (hQ w' (e0.tr e))

theorem checksumAgrees_c {l : List UInt8} (hQ : ∀ w', Ext w w' (fun _ => False) → Q (.bool true) w') : CallE Try.prog 3 #[.string (mkS l)] w Q := by
  apply C.law34_ImageChecksumAgrees
  unfold W.law34_ImageChecksumAgrees
  rw [mkS_size]
  refine br_of (fun _ => awake_fin (Ext.refl _ _) hQ) fun h => ?_
  have hl : l.length ≤ 500 := by
    have := of_decide_eq_false h
    omega
  refine checksum_c (by omega) fun w1 e1 => fi ?_
  refine rchecksum_c (by omega) (fi ?_)
  refine br_pos (by simp) ?_
  exact awake_fin e1 hQ

def mn3 (a b c : Nat) : Int := if 200 < (if ((c : Nat) : Int) < (if ((b : Nat) : Int) < ((a : Nat) : Int) then ((b : Nat) : Int) else ((a : Nat) : Int)) then ((c : Nat) : Int) else (if ((b : Nat) : Int) < ((a : Nat) : Int) then ((b : Nat) : Int) else ((a : Nat) : Int))) then 200 else (if ((c : Nat) : Int) < (if ((b : Nat) : Int) < ((a : Nat) : Int) then ((b : Nat) : Int) else ((a : Nat) : Int)) then ((c : Nat) : Int) else (if ((b : Nat) : Int) < ((a : Nat) : Int) then ((b : Nat) : Int) else ((a : Nat) : Int)))
theorem mn3_ok (a b c : Nat) : ∃ N : Nat, mn3 a b c = (N : Int) ∧ N ≤ a ∧ N ≤ b ∧ N ≤ c ∧ N ≤ 200 := by
  unfold mn3
  refine ⟨min (min (min a b) c) 200, ?_, by omega, by omega, by omega, by omega⟩
  split <;> split <;> split <;> omega
def x3 (l m n : List UInt8) : List UInt8 := List.zipWith (· ^^^ ·) (List.zipWith (· ^^^ ·) l m) n

theorem affine_k7 {l m n : List UInt8} {N xb c : Nat} (h1 : N ≤ l.length) (h2 : N ≤ m.length) (h3 : N ≤ n.length) (hN : N ≤ 200) (hx : At w xb (by_ (x3 (l.take N) (m.take N) (n.take N))) 5) (e0 : Ext U w (fun _ => False))
    (hQ : ∀ w', Ext U w' (fun _ => False) → Q (.bool true) w') : W.law34_ImageChecksumIsAffine_k7 (mkS l) (mkS m) (mkS n) (N : Int) (some ⟨xb, 0, none⟩) N c w Q := by
  unfold W.law34_ImageChecksumIsAffine_k7
  refine ⟨fun _ => True, trivial, ?_⟩
  refine qST (s_hi (by omega) (by omega)) ?_
  refine qST (s_hi (by omega) (by omega)) ?_
  refine qST (s_hi (by omega) (by omega)) ?_
  simp only [Int.toNat_natCast]
  have l1 : (l.take N).length = N := by rw [List.length_take]; omega
  have l2 : (m.take N).length = N := by rw [List.length_take]; omega
  have l3 : (n.take N).length = N := by rw [List.length_take]; omega
  have lx : (x3 (l.take N) (m.take N) (n.take N)).length = N := by unfold x3; rw [List.length_zipWith, List.length_zipWith, l1, l2, l3]; simp
  have haff := crc_affine (l := l.take N) (m := m.take N) (n := n.take N) (by omega) (by omega)
  change _ = crc (x3 (l.take N) (m.take N) (n.take N)) at haff
  generalize x3 (l.take N) (m.take N) (n.take N) = X at *
  generalize l.take N = l' at *
  generalize m.take N = m' at *
  generalize n.take N = n' at *
  have ed : Ext w (drew w) (fun _ => False) := (Ext.refl w _).drew_
  have cs : ∀ (l : List UInt8) (w' : World) (K : Int → World → Prop), l.length = N → (∀ w'', Ext w' w'' (fun _ => False) → K (((crc l).toNat : Nat) : Int) w'') → CallE Try.prog 13 #[.string (mkS l)] w' fun v w'' => fI .u32 v fun x => True ∧ K x w'' := by
    intro l w' K hl hK
    exact checksum_c (by omega) fun w'' e'' => fi ⟨trivial, hK w'' e''⟩
  have cv : ∀ (w' : World) (K : ByteArray → World → Prop), Ext w w' (fun _ => False) → K (mkS X) w' → rv Try.prog (convert 26 9 (.slice (some ⟨xb, 0, none⟩) N c)) w' fun v w'' => fT v fun t => True ∧ K t w'' := by
    intro w' K e' hK
    exact bsT (hx.ext e' (fun h => h)) lx ⟨trivial, hK⟩
  have fin : ∀ w', Ext w w' (fun _ => False) → br ((bxor .u32 (bxor .u32 (((crc l').toNat : Nat) : Int) (((crc m').toNat : Nat) : Int)) (((crc n').toNat : Nat) : Int) : Int) == (((crc X).toNat : Nat) : Int)) (CallE Try.prog 12 #[] w' fun v w'' => fB v fun b => True ∧ Q (.bool b) w'') (True ∧ Q (.bool false) w') := by
    intro w' e'
    refine br_pos (by rw [xor32, xor32, haff]; simp) ?_
    exact awake_c fun w'' e'' => fb ⟨trivial, hQ w'' ((e0.tr e').tr e'')⟩
  refine ⟨?_, ?_⟩
  · refine cs l' _ _ l1 fun w1 e1 => ⟨?_, ?_⟩
    · refine cs m' _ _ l2 fun w2 e2 => ⟨?_, ?_⟩
      · refine cs n' _ _ l3 fun w3 e3 => ?_
        refine cv _ _ (((ed.tr e1).tr e2).tr e3) ?_
        refine cs X _ _ lx fun w4 e4 => ?_
        exact fin w4 ((((ed.tr e1).tr e2).tr e3).tr e4)
      · refine cv _ _ ((ed.tr e1).tr e2) ?_
        refine cs n' _ _ l3 fun w3 e3 => ?_
        refine cs X _ _ lx fun w4 e4 => ?_
        exact fin w4 ((((ed.tr e1).tr e2).tr e3).tr e4)
    · refine cv _ _ (ed.tr e1) ?_
      refine cs m' _ _ l2 fun w2 e2 => ?_
      refine cs n' _ _ l3 fun w3 e3 => ?_
      refine cs X _ _ lx fun w4 e4 => ?_
      exact fin w4 ((((ed.tr e1).tr e2).tr e3).tr e4)
  · refine cv _ _ ed ?_
    refine cs l' _ _ l1 fun w1 e1 => ?_
    refine cs m' _ _ l2 fun w2 e2 => ?_
    refine cs n' _ _ l3 fun w3 e3 => ?_
    refine cs X _ _ lx fun w4 e4 => ?_
    exact fin w4 ((((ed.tr e1).tr e2).tr e3).tr e4)

theorem x3_succ {l m n : List UInt8} {i : Nat} (h1 : i < l.length) (h2 : i < m.length) (h3 : i < n.length) : x3 (l.take (i + 1)) (m.take (i + 1)) (n.take (i + 1)) = x3 (l.take i) (m.take i) (n.take i) ++ [l.getD i 0 ^^^ m.getD i 0 ^^^ n.getD i 0] := by
  have g : ∀ (l : List UInt8), i < l.length → l.take (i + 1) = l.take i ++ [l.getD i 0] := by
    intro l h
    rw [List.getD_eq_getElem?_getD, List.getElem?_eq_getElem h, Option.getD_some, List.take_append_getElem h]
  rw [g l h1, g m h2, g n h3]
  unfold x3
  rw [List.zipWith_append (by rw [List.length_take, List.length_take]; omega), List.zipWith_append (by rw [List.length_zipWith, List.length_take, List.length_take, List.length_take]; omega)]
  rfl
theorem by_setx (a b : List UInt8) (x y : UInt8) (i : Nat) (h : a.length = i) : (by_ (a ++ x :: b)).set i (.int .u8 (y.toNat : Int)) = by_ (a ++ y :: b) := by
  subst h
  unfold by_
  rw [← List.map_set (f := fun b : UInt8 => Value.int .u8 (b.toNat : Int)), List.set_append_right _ _ (Nat.le_refl _), Nat.sub_self]
  rfl

theorem checksumIsAffine_c {l m n : List UInt8} (hQ : ∀ w', Ext w w' (fun _ => False) → Q (.bool true) w') : CallE Try.prog 4 #[.string (mkS l), .string (mkS m), .string (mkS n)] w Q := by
  apply C.law34_ImageChecksumIsAffine
  unfold W.law34_ImageChecksumIsAffine
  obtain ⟨N, hN, h1, h2, h3, h4⟩ := mn3_ok l.length m.length n.length
  unfold mn3 at hN
  simp only [mkS_size]
  rw [hN]
  refine mkB 5 (by omega) fun xb w1 hxb a1 e1 z1 => ?_
  have lx : ∀ i, i ≤ N → (x3 (l.take i) (m.take i) (n.take i)).length = i := by
    intro i hi
    unfold x3
    rw [List.length_zipWith, List.length_zipWith, List.length_take, List.length_take, List.length_take]; omega
  refine LoopW.nat N (fun i x w' => x = ((i : Int), ()) ∧ At w' xb (by_ (x3 (l.take i) (m.take i) (n.take i) ++ List.replicate (N - i) 0)) 5 ∧ Ext w w' (fun _ => False)) ⟨rfl, by simpa [x3] using a1, e1⟩ ?_
  rintro i x w2 next hi ⟨rfl, a2, e2⟩ hnext
  dsimp only
  by_cases hlt : i < N
  case neg =>
    rw [decide_eq_false (by omega), br_false]
    obtain rfl : i = N := by omega
    rw [Nat.sub_self, List.replicate_zero, List.append_nil] at a2
    exact affine_k7 h1 h2 h3 h4 a2 e2 hQ
  rw [decide_eq_true (by omega), br_true]
  unfold dr
  dsimp only
  refine qI (sxn i (by omega)) ?_
  refine qI (sxn i (by omega)) ?_
  refine qI (sxn i (by omega)) ?_
  refine ixb i 1 5 hlt ?_
  rw [xor8, xor8, Nat.mul_one]
  refine st_i a2.drew_ (by rw [by_length, List.length_append, lx i (by omega), List.length_replicate]; omega) fun w3 a3 e3 z3 => ?_
  rw [inc_nat (by omega)]
  refine hnext hlt _ _ ⟨rfl, ?_, e2.drew_.trans e3 (fun _ _ h => h) (fun b hb hx => by omega)⟩
  obtain ⟨k, hk⟩ : ∃ k, N - i = k + 1 := ⟨N - i - 1, by omega⟩
  rw [hk, List.replicate_succ, by_setx _ _ _ _ _ (lx i (by omega))] at a3
  rw [x3_succ (by omega) (by omega) (by omega), show N - (i + 1) = k by omega, List.append_assoc]
  exact a3
end
end Go.Proofs.Ytpgekajgbkbpkaa.Im
