/-
  The statement ImagePrefix over the code. No condition beyond those stated.
-/
import Derived.Test.YtpgekajgbkbpkaaImT
namespace Go.Ev
open Go
/-- s[:i], of nothing too. -/
theorem sl_toO {P : Program} {t : TypeId} {a : Option Addr} {n c i : Nat} {k : IntKind} (e : TypeId) (hi : i ≤ c) (hu : P.underlying t = some (.slice e) := by kernel_rfl) (hh : hasT P e = true := by kernel_rfl) :
    ∀ w, (Instr.sliceAt t (.slice a n c) none (some (.int k (i : Int))) none).run P w = .ok (.slice a i c) w := by
  intro w
  unfold Instr.sliceAt Instr.slice
  simp only [Sem.run_bind, Result.andThen, run_underlying_ok hu, Instr.sliceBounds, Sem.run_pure, run_sliceBound (show (0 : Int) ≤ (i : Int) by omega) (show (i : Int) ≤ (c : Int) by omega), Int.toNat_natCast, run_sizeOf rfl hh, Nat.zero_mul, Nat.sub_zero]
  have : a.map (fun x => x.add 0) = a := by
    cases a with
    | none => rfl
    | some a => rw [Option.map_some]; unfold Addr.add; rw [if_pos rfl]
  rw [this, ite_self]

end Go.Ev
namespace Go.Proofs.Ytpgekajgbkbpkaa.Im
open Go Go.Ev Go.Proofs

theorem bodyOf_split (ps : List Pg) (j : Nat) : bodyOf ps = bodyOf (ps.take j) ++ bodyOf (ps.drop j) := by
  unfold bodyOf
  rw [← List.flatMap_append, List.take_append_drop]
section
variable {U w : World} {Q : Value → World → Prop}

theorem prefix_k19 {hb g n s : Nat} {bd x y : List UInt8} (hh : At w hb (hdrC g bd n s) 32) (hbd : bd.length = 32) (hn : n < 4294967296) (h1 : n ≤ x.length) (h2 : n ≤ y.length) (hxy : x.take n = y.take n) (e0 : Ext U w (fun _ => False)) (hQ : ∀ w', Ext U w' (fun _ => False) → Q (.bool true) w') :
    W.law34_ImagePrefix_k19 ⟨hb, 0, none⟩ (mkS x) (mkS y) w Q := by
  unfold W.law34_ImagePrefix_k19
  simp only [add_mk, Nat.zero_add, mkS_size]
  refine ldI hh (hdrC_33 hbd) ?_
  rw [wrap_i64 (x := ((n : Nat) : Int)) (by omega) (by omega)]
  unfold dr
  dsimp only
  refine br_pos (decide_eq_true (by omega)) (br_pos (decide_eq_true (by omega)) ?_)
  refine qT (s_hi (by omega) (by omega)) ?_
  refine qT (s_hi (by omega) (by omega)) ?_
  rw [Int.toNat_natCast, hxy]
  refine qB s_eq ?_
  refine br_pos (by simp) ?_
  exact awake_fin e0.drew_ hQ

theorem prefix_k6 {ib jb pc g j : Nat} {bd : List UInt8} {ps : List Pg} {pa : Option Addr} (hbd : bd.length = 32) (hg : g < 18446744073709551616) (hok : OkP ps) (h6 : ps.length ≤ 6) (hj : j ≤ ps.length)
    (hi : At w ib (imgC bd g pa ps.length pc) 45) (hjj : At w jb (imgC bd g pa j pc) 45) (hs : Reads w pa (ps.flatMap pgC)) (e0 : Ext U w (fun _ => False)) (hQ : ∀ w', Ext U w' (fun _ => False) → Q (.bool true) w') :
    W.law34_ImagePrefix_k6 ⟨ib, 0, none⟩ ⟨jb, 0, none⟩ w Q := by
  unfold W.law34_ImagePrefix_k6
  have hokj := okP_take hok j
  have hjl : (ps.take j).length = j := by rw [List.length_take]; omega
  refine ld_w hi (fg ?_) (hs := by rw [imgC_length hbd]; kernel_rfl)
  refine encode_c hbd hs rfl (fun h => absurd hok h) fun _ sb c1 w1 s1 f1 e1 => ⟨_, _, _, _, rfl, ?_⟩
  refine ld_w (hjj.ext e1 (fun h => h)) (fg ?_) (hs := by rw [imgC_length hbd]; kernel_rfl)
  have hsj : Reads w1 pa ((ps.take j).flatMap pgC) := by
    have := (hs.ext e1 (fun _ _ _ h => h)).take (j * 2)
    have ht : (ps.flatMap pgC).take (j * 2) = (ps.take j).flatMap pgC := by
      have hsp : ps.flatMap pgC = (ps.take j).flatMap pgC ++ (ps.drop j).flatMap pgC := by rw [← List.flatMap_append, List.take_append_drop]
      rw [hsp]
      exact List.take_left' (by rw [flat_length pgC_length, hjl])
    rw [ht] at this
    exact this
  refine encode_c hbd hsj hjl (fun h => absurd hokj h) fun _ tb c2 w2 s2 f2 e2 => ⟨_, _, _, _, rfl, ?_⟩
  have s12 := s1.ext e2 (fun _ _ h => h)
  have hA := bodyOf_split ps j
  have hlA := body_lt hok
  have hlB := body_lt hokj
  have hlAB : (bodyOf (ps.take j)).length ≤ (bodyOf ps).length := by rw [hA, List.length_append]; omega
  have hpA := pad_mod (bodyOf ps)
  have hpB := pad_mod (bodyOf (ps.take j))
  rw [pad_length] at hpA hpB
  have lA : padn (bodyOf ps).length < 64 := Nat.mod_lt _ (by omega)
  have lB : padn (bodyOf (ps.take j)).length < 64 := Nat.mod_lt _ (by omega)
  have hcA := cuts_count (bodyOf ps)
  have hcB := cuts_count (bodyOf (ps.take j))
  have hLA : (secs g bd ps).length = (cuts (bodyOf ps)).length + 1 := by unfold secs; rw [List.length_cons]
  have hLB : (secs g bd (ps.take j)).length = (cuts (bodyOf (ps.take j))).length + 1 := by unfold secs; rw [List.length_cons]
  have hle : (cuts (bodyOf (ps.take j))).length ≤ (cuts (bodyOf ps)).length := by omega
  refine br_neg rfl (br_neg rfl ?_)
  refine br_neg (by rw [beq_eq_false_iff_ne]; omega) (br_neg (by rw [beq_eq_false_iff_ne]; omega) (br_neg (decide_eq_false (by omega)) ?_))
  have hgA : ∀ i (hi : i < (secs g bd ps).length), (strs (secs g bd ps))[i * 1]? = some (.string (mkS (secs g bd ps)[i])) := by
    intro i hi
    unfold strs
    rw [Nat.mul_one, List.getElem?_map, List.getElem?_eq_getElem hi]
    rfl
  have hgB : ∀ i (hi : i < (secs g bd (ps.take j)).length), (strs (secs g bd (ps.take j)))[i * 1]? = some (.string (mkS (secs g bd (ps.take j))[i])) := by
    intro i hi
    unfold strs
    rw [Nat.mul_one, List.getElem?_map, List.getElem?_eq_getElem hi]
    rfl
  have crA := (crc (bodyOf ps)).isLt
  have crB := (crc (bodyOf (ps.take j))).isLt
  have e02 := (e0.tr e1).tr e2
  refine ixb 0 1 9 (by omega) ?_
  refine slL s12 (hgA 0 (by omega)) (ft ?_)
  show CallE _ _ #[.string (mkS (hdr g bd (bodyOf ps).length (crc (bodyOf ps)).toNat))] _ _
  refine decodeHeader_c fun w3 e3 => ⟨_, _, rfl, ?_⟩
  rw [decH_hdr hbd hg (by omega) crA]
  refine al_st 35 (hdrC_length hbd) (hdrC_one _ _ _ _) fun xb w4 hxb a4 e4 z4 => ?_
  have e24 := e3.tr e4
  refine ixb 0 1 9 (by omega) ?_
  refine slL (s2.ext e24 (fun _ _ h => h)) (hgB 0 (by omega)) (ft ?_)
  show CallE _ _ #[.string (mkS (hdr g bd (bodyOf (ps.take j)).length (crc (bodyOf (ps.take j))).toNat))] _ _
  refine decodeHeader_c fun w5 e5 => ⟨_, _, rfl, ?_⟩
  rw [decH_hdr hbd hg (by omega) crB]
  refine al_st 35 (hdrC_length hbd) (hdrC_one _ _ _ _) fun yb w6 hyb a6 e6 z6 => ?_
  have e46 := e5.tr e6
  have e26 := e24.tr e46
  refine br_neg rfl (br_neg rfl ?_)
  simp only [add_mk, Nat.zero_add]
  refine ldI a6 (hdrC_33 hbd) ?_
  refine ldI (a4.ext e46 (fun h => h)) (hdrC_33 hbd) ?_
  refine br_neg (decide_eq_false (by omega)) ?_
  have s16 := s12.ext e26 (fun _ _ h => h)
  have s26 := s2.ext e26 (fun _ _ h => h)
  have fA := flatten_take (cuts (bodyOf ps))
  have fB := flatten_take (cuts (bodyOf (ps.take j)))
  have cA := cuts_len (bodyOf ps)
  have cB := cuts_len (bodyOf (ps.take j))
  have fl : ∀ (L : List (List UInt8)) (k : Nat), (∀ s ∈ L, s.length = 64) → k ≤ L.length → ((L.take k).flatten).length = 64 * k := by
    intro L k h1 h2
    rw [flatten_len _ (fun s hs => h1 s (List.mem_of_mem_take hs)), List.length_take, Nat.min_eq_left h2]
  refine LoopW.nat (cuts (bodyOf (ps.take j))).length (fun i x w' => x = (mkS ((cuts (bodyOf ps)).take i).flatten, mkS ((cuts (bodyOf (ps.take j))).take i).flatten, ((i + 1 : Nat) : Int), ()) ∧ Ext w6 w' (fun _ => False)) ⟨by simp [mkS_nil], Ext.refl _ _⟩ ?_
  rintro i x w7 next hi' ⟨rfl, e7⟩ hnext
  dsimp only
  by_cases hlt : i < (cuts (bodyOf (ps.take j))).length
  case neg =>
    rw [decide_eq_false (by omega), br_false]
    obtain rfl : i = (cuts (bodyOf (ps.take j))).length := by omega
    have hB2 : ((cuts (bodyOf (ps.take j))).take (cuts (bodyOf (ps.take j))).length).flatten = pad (bodyOf (ps.take j)) := by rw [List.take_length, cuts_flat]
    refine prefix_k19 (a6.ext e7 (fun h => h)) hbd (by omega) (by rw [fl _ _ cA hle]; omega) (by rw [hB2, pad_length]; omega) ?_ ((e02.tr e26).tr e7) hQ
    rw [hB2, fA _ cA, cuts_flat, List.take_take, Nat.min_eq_left (by omega)]
    unfold pad
    rw [List.take_left, List.take_append_of_le_length hlAB]
    conv => lhs; rw [hA]
    rw [List.take_left]
  rw [decide_eq_true (by omega), br_true]
  unfold dr
  dsimp only
  have e7' := e7.drew_
  refine ixb (i + 1) 1 9 (by omega) ?_
  refine slL (s16.ext e7' (fun _ _ h => h)) (hgA (i + 1) (by omega)) (ft ?_)
  have hA1 : (secs g bd ps)[i + 1]'(by omega) = (cuts (bodyOf ps))[i]'(by omega) := rfl
  have hB1 : (secs g bd (ps.take j))[i + 1]'(by omega) = (cuts (bodyOf (ps.take j)))[i]'(by omega) := rfl
  have tkA : ((cuts (bodyOf ps)).take (i + 1)).flatten = ((cuts (bodyOf ps)).take i).flatten ++ (cuts (bodyOf ps))[i]'(by omega) := by
    rw [show (cuts (bodyOf ps)).take (i + 1) = (cuts (bodyOf ps)).take i ++ [(cuts (bodyOf ps))[i]'(by omega)] from (List.take_append_getElem (by omega)).symm]
    simp only [List.flatten_append, List.flatten_cons, List.flatten_nil, List.append_nil]
  have tkB : ((cuts (bodyOf (ps.take j))).take (i + 1)).flatten = ((cuts (bodyOf (ps.take j))).take i).flatten ++ (cuts (bodyOf (ps.take j)))[i]'(by omega) := by
    rw [show (cuts (bodyOf (ps.take j))).take (i + 1) = (cuts (bodyOf (ps.take j))).take i ++ [(cuts (bodyOf (ps.take j)))[i]'(by omega)] from (List.take_append_getElem (by omega)).symm]
    simp only [List.flatten_append, List.flatten_cons, List.flatten_nil, List.append_nil]
  rw [hA1]
  refine qT (s_add (by rw [fl _ _ cA (by omega), cA _ (List.getElem_mem _)]; omega)) ?_
  refine ixb (i + 1) 1 9 (by omega) ?_
  refine slL (s26.ext e7' (fun _ _ h => h)) (hgB (i + 1) (by omega)) (ft ?_)
  rw [hB1]
  refine qT (s_add (by rw [fl _ _ cB (by omega), cB _ (List.getElem_mem _)]; omega)) ?_
  rw [inc_nat (by omega), ← tkA, ← tkB]
  exact hnext hlt _ _ ⟨rfl, e7'⟩

theorem prefix_c {bd : List UInt8} {l : Option Addr} {rn rc : Nat} {rs : List Rw} {k : Int} (hbd : bd.length = 32) (hr : Rin w l rn rs) (hQ : ∀ w', Ext w w' (fun _ => False) → Q (.bool true) w') :
    CallE Try.prog 11 #[.agg (by_ bd).toArray, .slice l rn rc, .int .i64 k] w Q := by
  apply C.law34_ImagePrefix
  unfold W.law34_ImagePrefix
  refine al_i fun bb w1 hbb a1 e1 z1 => ?_
  change At w1 bb (by_ bd) 30 at a1
  refine large_c (hr.ext e1) fun b => fb ?_
  refine br_of (fun _ => awake_fin e1 hQ) fun _ => ?_
  refine ld_w a1 (fg ?_) (hs := by rw [by_length, hbd]; kernel_rfl)
  refine some_c (g := 3) (hr.ext e1) hbd fun ps pa pc w2 hok h6 s2 f2 e2 => fg ?_
  refine al_st 34 (imgC_length hbd) (imgC_one _ _ _ _ _) fun ib w3 hib a3 e3 z3 => ?_
  refine ld_w a3 (fg ?_) (hs := by rw [imgC_length hbd]; kernel_rfl)
  refine al_st 34 (imgC_length hbd) (imgC_one _ _ _ _ _) fun jb w4 hjb a4 e4 z4 => ?_
  simp only [add_mk, Nat.zero_add]
  refine ⟨fun _ => True, trivial, ?_⟩
  have a34 := a3.ext e4 (fun h => h)
  have hl3 := a3.lt
  have e04 := ((e1.tr e2).tr e3).tr e4
  have hsz3 := ((e1.tr e2).tr e3).size
  have hcap : ps.length ≤ pc := by
    rcases s2 with ⟨_, h1, h2, _⟩ | ⟨b, sp, _, _, _, _, h⟩
    · omega
    · exact h
  have ld3 : ∀ {K : Option Addr → Nat → Nat → Prop}, K pa ps.length pc → ld Try.prog 43 ⟨ib, 33, none⟩ (drew w4) fun v => fS v fun l n c => True ∧ K l n c :=
    fun hK => ldL (w := drew w4) a34.drew_ (imgC_33 hbd) ⟨trivial, hK⟩
  have hmb := modv_bd (v := k) (n := ((ps.length + 1 : Nat) : Int)) (by omega)
  obtain ⟨j, hj⟩ := nat_of hmb.1
  rw [hj] at hmb
  have md : ∀ {K : Int → World → Prop}, K (j : Int) (drew w4) → CallE Try.prog 18 #[.int .i64 k, .int .i64 (IntKind.wrap .i64 (((ps.length : Nat) : Int) + 1))] (drew w4) fun v w' => fI .i64 v fun x => True ∧ K x w' := by
    intro K hK
    rw [inc_nat (by omega)]
    refine mod_c (by omega) (by omega) (fi ⟨trivial, ?_⟩)
    rw [hj]
    exact hK
  have slc : ∀ {K : Option Addr → Nat → Nat → Prop}, K pa j pc → rqS Try.prog (fun _ => True) (Instr.sliceAt 43 (.slice pa ps.length pc) none (some (.int .i64 (j : Int))) none) fun v => fS v fun l n c => K l n c :=
    fun hK => qSL (sl_toO 52 (by omega)) hK
  have ed : Ext w4 (drew w4) (fun _ => False) := (Ext.refl w4 _).drew_
  have fin : st Try.prog 43 ⟨jb, 33, none⟩ (.slice pa j pc) (drew w4) fun w5 => True ∧ W.law34_ImagePrefix_k6 ⟨ib, 0, none⟩ ⟨jb, 0, none⟩ w5 Q := by
    refine st_i (w := drew w4) a4.drew_ (by rw [imgC_length hbd]; omega) fun w5 a5 e5 z5 => ⟨trivial, ?_⟩
    rw [imgC_set hbd] at a5
    have hx : ∀ p : Addr, pa = some p → ps.flatMap pgC ≠ [] → ¬ p.block = jb := by
      intro p hp hne
      rcases s2 with ⟨h, _⟩ | ⟨b, sp, hb, hat, _⟩
      · rw [h] at hp; cases hp
      · rw [hb] at hp
        cases hp
        have := hat.lt
        have := e3.size
        show b ≠ jb
        omega
    refine prefix_k6 hbd (by omega) hok h6 (by omega) (a34.drew_.ext e5 (by omega)) a5 (((s2.ext e3 (fun _ _ h => h)).ext (e4.tr ed) (fun _ _ h => h)).reads.ext e5 hx) ((e04.tr ed).trans e5 (fun _ _ h => h) (fun b hb h => by omega)) hQ
  repeat' with_reducible first
    | refine ld3 ?_
    | refine md ?_
    | refine slc ?_
    | refine And.intro ?_ ?_
    | exact fin
end
end Go.Proofs.Ytpgekajgbkbpkaa.Im
