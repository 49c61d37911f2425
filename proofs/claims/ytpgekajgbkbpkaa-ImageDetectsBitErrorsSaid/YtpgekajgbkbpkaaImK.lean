/-
  Decode over the code. No condition beyond those stated.
-/
import Derived.Test.YtpgekajgbkbpkaaImJ
namespace Go.Proofs.Ytpgekajgbkbpkaa.Im
open Go Go.Ev Go.Proofs
section
variable {U w : World} {Q : Value → World → Prop}

theorem zimg : (zeroT Try.prog 45).cells.toList = imgC zb 0 none 0 0 := by kernel_rfl
/-- The empty image is returned. -/
theorem retz {rb : Nat} {e : Int} {cs : List Value} (h : At w rb cs 45) (hcs : cs.length = 34) (hQ : ∀ w', Ext w w' (· = rb) → Q (.tuple #[.agg (imgC zb 0 none 0 0).toArray, .int .i64 e]) w') :
    st Try.prog 45 ⟨rb, 0, none⟩ (.agg (imgC zb 0 none 0 0).toArray) w fun w3 => ld Try.prog 45 ⟨rb, 0, none⟩ w3 fun v4 => fG v4 fun g5 => Q (.tuple #[.agg g5, .int .i64 e]) w3 := by
  refine st_w 34 h hcs rfl (imgC_one _ _ _ _ _) fun w2 a2 e2 z2 => ?_
  refine ld_w a2 (fg ?_)
  exact hQ w2 e2

theorem decode_nil {a : Option Addr} {c : Nat} (hQ : ∀ w', Ext w w' (fun _ => False) → Q (.tuple #[.agg (imgC zb 0 none 0 0).toArray, .int .i64 3]) w') : CallE Try.prog 25 #[.slice a 0 c] w Q := by
  apply C.image_Decode
  unfold W.image_Decode
  refine al_i fun rb w1 hrb a1 e1 z1 => ?_
  rw [zimg] at a1
  rw [show ((((0 : Nat) : Int) : Int) == 0) = true from rfl, br_true]
  exact retz a1 rfl fun w2 e2 => hQ w2 (e1.trans e2 (fun _ _ h => h) (fun b hb hx => by omega))

theorem decode_c {sb n c : Nat} {ss : List (List UInt8)} (h : Reads w (some ⟨sb, 0, none⟩) (strs ss)) (hn : ss.length = n) (hc : n ≤ c) (hsb : sb < w.heap.size) (hbd : n ≤ 100000)
    (h0 : ∀ e, decI ss = .inl e → ∀ w', Ext w w' (fun _ => False) → Q (.tuple #[.agg (imgC zb 0 none 0 0).toArray, .int .i64 e]) w')
    (h1 : ∀ bd g ps, decI ss = .inr (bd, g, ps) → ∀ a c' w', Sl w' 52 2 a ps.length c' (ps.flatMap pgC) → (∀ b, a = some ⟨b, 0, none⟩ → w.heap.size ≤ b) → Ext w w' (fun _ => False) → Q (.tuple #[.agg (imgC bd g a ps.length c').toArray, .int .i64 0]) w') :
    CallE Try.prog 25 #[.slice (some ⟨sb, 0, none⟩) n c] w Q := by
  subst hn
  match ss, h, hc, hbd, h0, h1 with
  | [], h, hc, hbd, h0, h1 => exact decode_nil fun w' e' => h0 3 rfl w' e'
  | s0 :: r, h, hc, hbd, h0, h1 => ?_
  apply C.image_Decode
  unfold W.image_Decode
  refine al_i fun rb w1 hrb a1 e1 z1 => ?_
  rw [zimg] at a1
  have hcl : (s0 :: r).length = r.length + 1 := rfl
  rw [show (((((s0 :: r).length : Nat) : Int) : Int) == 0) = false by rw [beq_eq_false_iff_ne, hcl]; omega, br_false]
  have ret : ∀ (e : Int) (w' : World), decI (s0 :: r) = .inl e → Ext w1 w' (fun _ => False) →
      st Try.prog 45 ⟨rb, 0, none⟩ (.agg (imgC zb 0 none 0 0).toArray) w' fun w3 => ld Try.prog 45 ⟨rb, 0, none⟩ w3 fun v4 => fG v4 fun g5 => Q (.tuple #[.agg g5, .int .i64 e]) w3 := by
    intro e w' he e'
    exact retz (a1.ext e' (fun h => h)) rfl fun w2 e2 => h0 e he w2 ((e1.tr e').trans e2 (fun _ _ h => h) (fun b hb hx => by omega))
  have hr1 := h.ext e1 (fun _ _ _ h => h)
  have hget : ∀ i (hi : i < (s0 :: r).length), (strs (s0 :: r))[i]? = some (.string (mkS (s0 :: r)[i])) := by
    intro i hi
    unfold strs
    rw [List.getElem?_map, List.getElem?_eq_getElem hi]
    rfl
  refine LoopW.nat (s0 :: r).length (fun i x w' => x = ((i : Int), ()) ∧ w' = w1 ∧ ∀ j (hj : j < (s0 :: r).length), j < i → (s0 :: r)[j].length = 64) ⟨rfl, rfl, fun j hj h => by omega⟩ ?_
  rintro i x w2 next hi ⟨rfl, rfl, hal⟩ hnext
  dsimp only
  by_cases hlt : i < (s0 :: r).length
  · rw [decide_eq_true (by omega), br_true]
    refine ixb i 1 9 hlt ?_
    have : (⟨sb, i * 1, none⟩ : Addr) = Addr.add ⟨sb, 0, none⟩ i := by rw [add_mk, Nat.mul_one, Nat.zero_add]
    rw [this]
    refine rdL hr1 (hget i hlt) (ft ?_)
    rw [mkS_size]
    by_cases h64 : (s0 :: r)[i].length = 64
    case neg =>
      rw [show (((((s0 :: r)[i].length : Nat) : Int) : Int) != 64) = true by rw [bne_iff_ne]; omega, br_true]
      exact ret 3 _ (by
        unfold decI
        dsimp only
        rw [if_pos (fun hc => h64 (hc _ (List.getElem_mem hlt)))]) (Ext.refl _ _)
    rw [show (((((s0 :: r)[i].length : Nat) : Int) : Int) != 64) = false by rw [h64]; rfl, br_false, inc_nat (by omega)]
    refine hnext hlt _ _ ⟨rfl, rfl, fun j hj hji => ?_⟩
    by_cases hjeq : j = i
    · subst hjeq; exact h64
    · exact hal j hj (by omega)
  rw [decide_eq_false (by omega), br_false]
  have hall : ∀ s ∈ s0 :: r, s.length = 64 := by
    intro s hs
    obtain ⟨j, hj, rfl⟩ := List.getElem_of_mem hs
    exact hal j hj (by omega)
  have hrall : ∀ s ∈ r, s.length = 64 := fun s hs => hall s (.tail _ hs)
  unfold W.image_Decode_k9
  refine ixb 0 1 9 (by rw [hcl]; omega) ?_
  have hz0 : (⟨sb, 0 * 1, none⟩ : Addr) = Addr.add ⟨sb, 0, none⟩ 0 := by rw [add_mk, Nat.zero_mul]
  rw [hz0]
  refine rdL hr1 (hget 0 (by rw [hcl]; omega)) (ft ?_)
  show CallE _ _ #[.string (mkS s0)] _ _
  refine decodeHeader_c fun w3 e3 => ⟨_, _, rfl, ?_⟩
  refine al_st 35 (decH_len s0) (decH_one s0) fun hb w4 hhb a4 e4 z4 => ?_
  have e14 := e3.tr e4
  by_cases hd : (decH s0).2 = 0
  case neg =>
    rw [show ((decH s0).2 != 0) = true by rw [bne_iff_ne]; exact hd, br_true]
    exact ret _ w4 (by
      unfold decI
      dsimp only
      rw [if_neg (by simpa using hall), if_pos hd]) e14
  rw [show ((decH s0).2 != 0) = false by rw [hd]; rfl, br_false]
  rw [decH_ok hd] at a4
  have hbl : (sub s0 12 44).length = 32 := sub_length (by rw [hall s0 (.head _)]; omega)
  have hlen32 : num (sub s0 44 48) < 4294967296 := num_32 (by rw [hall s0 (.head _)]; omega) (by omega)
  have hsum32 : num (sub s0 48 52) < 4294967296 := num_32 (by rw [hall s0 (.head _)]; omega) (by omega)
  simp only [add_mk, Nat.zero_add]
  generalize hg : num (sub s0 4 12) = g at *
  generalize hL : num (sub s0 44 48) = L at *
  generalize hS : num (sub s0 48 52) = S at *
  generalize hB : sub s0 12 44 = bd at *
  have hc33 : (hdrC g bd L S)[33]? = some (.int .u32 (L : Int)) := by
    unfold hdrC
    rw [List.getElem?_cons_succ, List.getElem?_append_right (by rw [by_length, hbl]; omega), by_length, hbl]
    rfl
  have hc34 : (hdrC g bd L S)[34]? = some (.int .u32 (S : Int)) := by
    unfold hdrC
    rw [List.getElem?_cons_succ, List.getElem?_append_right (by rw [by_length, hbl]; omega), by_length, hbl]
    rfl
  refine ldI a4 hc33 ?_
  refine qL (sl_fr (i := 1) 9 1 (by rw [hcl]; omega)) ?_
  have hdec : decI (s0 :: r) = if r.length * 64 < L then .inl 4 else if (crc (r.flatten.take L)).toNat ≠ S then .inl 5
      else match parse (r.flatten.take L).length (r.flatten.take L) [] with
      | none => .inl 3
      | some ps => if validP ps = true then .inr (bd, g, ps) else .inl 3 := by
    unfold decI
    dsimp only
    rw [if_neg (by simpa using hall), if_neg (by simp [hd]), hL, hS, hB, hg]
    rfl
  rw [show (s0 :: r).length - 1 = r.length from rfl, wrap_64 (n := r.length) (by omega), show ((r.length : Nat) : Int) * 64 = ((r.length * 64 : Nat) : Int) by omega, wrap_64 (n := r.length * 64) (by omega), wrap_64 (n := L) (by omega)]
  by_cases htr : r.length * 64 < L
  · rw [decide_eq_true (by omega), br_true]
    exact ret 4 w4 (by rw [hdec, if_pos htr]) e14
  rw [decide_eq_false (by omega), br_false]
  rw [if_neg htr] at hdec
  have hcnt : IntKind.wrap .i64 (IntKind.wrap .u64 (Int.tdiv (IntKind.wrap .u64 ((IntKind.wrap .u64 ((L : Int) + 64)) - 1)) 64)) = (((L + 63) / 64 : Nat) : Int) := by
    rw [show (L : Int) + 64 = ((L + 64 : Nat) : Int) by omega, wrap_64 (by omega), show ((L + 64 : Nat) : Int) - 1 = ((L + 63 : Nat) : Int) by omega, wrap_64 (by omega), show Int.tdiv ((L + 63 : Nat) : Int) 64 = (((L + 63) / 64 : Nat) : Int) from rfl, wrap_64 (by omega), wrap_i64 (by omega) (by omega)]
  rw [hcnt]
  generalize hK : (L + 63) / 64 = K
  have hKr : K ≤ r.length := by omega
  refine qL (sl_to 9 (by omega)) ?_
  have hrd4 := hr1.ext e14 (fun _ _ _ h => h)
  have hsb4 : sb < w4.heap.size := by
    have := e1.size; have := e14.size; omega
  have hpick : (if c = 1 then (⟨sb, 0, none⟩ : Addr) else Addr.add ⟨sb, 0, none⟩ (1 * 1)) = ⟨sb, if c = 1 then 0 else 1, none⟩ := by
    by_cases hc1 : c = 1
    · rw [if_pos hc1, if_pos hc1]
    · rw [if_neg hc1, if_neg hc1, add_mk]
  rw [hpick]
  have htkl : (r.take K).length = K := by rw [List.length_take]; omega
  have hfl := flatten_take r K hrall
  have hfl2 := flatten_len (r.take K) (fun s hs => hrall s (List.mem_of_mem_take hs))
  rw [htkl] at hfl2
  have hjoin : ∀ Q' : Value → World → Prop, (∀ w', Ext w4 w' (fun _ => False) → Q' (.string (mkS (r.take K).flatten)) w') → CallE Try.prog 36 #[.slice (some ⟨sb, if c = 1 then 0 else 1, none⟩) K (c - 1), .string ⟨#[]⟩] w4 Q' := by
    intro Q' hq
    have := join_c (w := w4) (b := sb) (o := if c = 1 then 0 else 1) (c := c - 1) (xs := r.take K) (Q := Q') (fun j x hx => ?_) hsb4 (by omega) (by omega) (by omega) hq
    · rw [htkl] at this
      exact this
    · have hjk : j < (r.take K).length := by
        rcases Nat.lt_or_ge j (r.take K).length with hh | hh
        · exact hh
        · rw [List.getElem?_eq_none hh] at hx; cases hx
      have hc1 : c ≠ 1 := by rw [hcl] at hc; omega
      rw [if_neg hc1]
      rcases hrd4 with hh | ⟨p, hp, hh⟩
      · exact absurd (congrArg List.length hh) (by rw [strs_length]; simp)
      · cases hp
        have := hh (1 + j) (by rw [strs_length, hcl]; omega)
        rw [add_mk, Nat.zero_add] at this
        rw [this, hget (1 + j) (by rw [hcl]; omega)]
        rw [List.getElem?_take_of_lt (by omega)] at hx
        have h3 : (s0 :: r)[1 + j]? = some x := by rw [Nat.add_comm, List.getElem?_cons_succ]; exact hx
        rw [List.getElem?_eq_getElem (by rw [hcl]; omega)] at h3
        rw [Option.some.inj h3]
  refine hjoin _ fun w5 e5 => ft ?_
  refine qT (s_hi (by omega) (by omega)) ?_
  have hbody : ((r.take K).flatten).take (L : Int).toNat = r.flatten.take L := by
    rw [Int.toNat_natCast, hfl, List.take_take, Nat.min_eq_left (by omega)]
  rw [hbody]
  have hbl2 : (r.flatten.take L).length = L := by
    rw [List.length_take, flatten_len r hrall]; omega
  generalize hbo : r.flatten.take L = body at *
  have e15 := e14.tr e5
  have a5 : At (drew w5) hb (hdrC g bd L S) 32 := (a4.ext e5 (fun h => h)).drew_
  refine ⟨fun w' => At w' hb (hdrC g bd L S) 32, a5, ?_⟩
  refine ldS_i (fun _ h => h) hc34 (fi ?_)
  refine checksum_c (by omega) fun w6 e6 => fi ⟨a5.ext e6 (fun h => h), ?_⟩
  have e16 : Ext w2 w6 (fun _ => False) := e15.drew_.tr e6
  have hcr := (crc body).isLt
  by_cases hsm : (crc body).toNat = S
  case neg =>
    rw [show ((((crc body).toNat : Nat) : Int) != ((S : Nat) : Int)) = true by rw [bne_iff_ne]; omega, br_true]
    exact ret 5 w6 (by rw [hdec, if_pos hsm]) e16
  rw [show ((((crc body).toNat : Nat) : Int) != ((S : Nat) : Int)) = false by rw [hsm]; simp, br_false]
  rw [if_neg (by simp [hsm])] at hdec
  have a6 := a5.ext e6 (fun h => h)
  refine decodeBody_c (by omega) (fun hpn w7 e7 => ⟨_, _, _, _, rfl, ?_⟩) (fun ps hps a7 c7 w7 s7 f7 e7 => ⟨_, _, _, _, rfl, ?_⟩)
  · rw [Bool.not_false, br_true]
    exact ret 3 w7 (by rw [hdec, hpn]) (e16.tr e7)
  · rw [hps] at hdec
    dsimp only at hdec
    by_cases hv : validP ps = true
    case neg =>
      rw [Bool.eq_false_iff.2 hv, Bool.not_false, br_true]
      exact ret 3 w7 (by rw [hdec, if_neg hv]) (e16.tr e7)
    rw [hv, Bool.not_true, br_false]
    rw [if_pos hv] at hdec
    have a7' := a6.ext e7 (fun h => h)
    refine ld_g 32 a7' (by rw [hdrC_length hbl]; omega) (fg ?_)
    have hbd' : ((hdrC g bd L S).drop 1).take 32 = by_ bd := by
      unfold hdrC
      show (by_ bd ++ _).take 32 = _
      exact List.take_left' (by rw [by_length, hbl])
    rw [hbd']
    refine ldI a7' rfl ?_
    refine rq_r (buildI hbl) (fg ?_)
    have r7 := a1.ext (e16.tr e7) (fun h => h)
    have hs6 := e16.size
    refine st_w 34 r7 rfl (imgC_length hbl) (imgC_one _ _ _ _ _) fun w8 a8 e8 z8 => ?_
    refine ld_w a8 (fg ?_) (hs := by rw [imgC_length hbl]; kernel_rfl)
    have hlt1 := a1.lt
    refine h1 bd g ps hdec a7 c7 w8 (s7.ext e8 (fun b hb hx => ?_)) (fun b hb => ?_) ((e1.tr (e16.tr e7)).trans e8 (fun _ _ h => h) (fun b hb hx => by omega))
    · have := f7 b hb; omega
    · have := f7 b hb
      have := e1.size
      omega
end
end Go.Proofs.Ytpgekajgbkbpkaa.Im
