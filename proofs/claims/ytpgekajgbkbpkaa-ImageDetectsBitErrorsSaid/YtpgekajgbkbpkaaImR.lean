/-
  The statements about the header over the code. No condition beyond those stated.
-/
import Derived.Test.YtpgekajgbkbpkaaImQ
namespace Go.Proofs.Ytpgekajgbkbpkaa.Im
open Go Go.Ev Go.Proofs

theorem four {α : Type} : ∀ {l : List α}, l.length = 4 → ∃ a b c d, l = [a, b, c, d]
  | [a, b, c, d], _ => ⟨a, b, c, d, rfl⟩
theorem two {α : Type} : ∀ {l : List α}, l.length = 2 → ∃ a b, l = [a, b]
  | [a, b], _ => ⟨a, b, rfl⟩
theorem flds4 {l : List Field} {ts os : List Nat} (h1 : l.map (·.type) = ts) (h2 : l.map (·.offset) = os) (h3 : (l.all fun f => !(f.name == "_")) = true) : ∀ f ∈ l, (f.name == "_") = false := by
  intro f hf
  have := List.all_eq_true.1 h3 f hf
  simpa using this

section
variable {U w : World} {Q : Value → World → Prop}
/-- Two headers compared. -/
theorem hdr_eq {g n s g' n' s' : Nat} {bd bd' : List UInt8} (hb : bd.length = 32) (hb' : bd'.length = 32) :
    (Op.equalIn 10000 32 (.agg (hdrC g bd n s).toArray) (.agg (hdrC g' bd' n' s').toArray)).run Try.prog w = .ok (decide (g = g' ∧ bd = bd' ∧ n = n' ∧ s = s')) w := by
  rw [run_equalIn_agg w 9999 32 _ _ (by kernel_rfl) (by kernel_rfl)]
  have h1 : (Try.prog.fieldsOf 32).toList.map (·.type) = [28, 30, 23, 23] := by kernel_rfl
  have h2 : (Try.prog.fieldsOf 32).toList.map (·.offset) = [0, 1, 33, 34] := by kernel_rfl
  have h3 := flds4 h1 h2 (by kernel_rfl)
  generalize (Try.prog.fieldsOf 32).toList = l at *
  obtain ⟨f0, f1, f2, f3, rfl⟩ := four (l := l) (by have := congrArg List.length h1; simpa using this)
  simp only [List.map_cons, List.map_nil, List.cons.injEq, and_true] at h1 h2
  obtain ⟨t0, t1, t2, t3⟩ := h1
  obtain ⟨o0, o1, o2, o3⟩ := h2
  have key : (Op.eqFields 9999 (hdrC g bd n s).toArray (hdrC g' bd' n' s').toArray [f0, f1, f2, f3]).run Try.prog w = .ok ((((g : Int) == (g' : Int))) && (decide (bd = bd') && (((n : Int) == (n' : Int)) && (((s : Int) == (s' : Int)) && true)))) w := by
    have sc64 : isScal Try.prog 28 = true := by kernel_rfl
    have sc32 : isScal Try.prog 23 = true := by kernel_rfl
    have tk : ∀ (g n s : Nat) (bd : List UInt8), bd.length = 32 → ((hdrC g bd n s).drop 1).take 32 = by_ bd := by
      intro g n s bd hb
      unfold hdrC
      show (by_ bd ++ _).take 32 = _
      exact List.take_left' (by rw [by_length, hb])
    refine eqFields_cons (h3 _ (by simp)) (a := .int .u64 (g : Int)) (b := .int .u64 (g' : Int)) (by rw [t0, o0]; exact run_partS sc64 rfl) (by rw [t0, o0]; exact run_partS sc64 rfl) (by rw [t0]; exact run_equalIn_int w 9998 _ .u64 .u64 _ _ (by kernel_rfl)) ?_
    refine eqFields_cons (h3 _ (by simp)) (a := .agg (by_ bd).toArray) (b := .agg (by_ bd').toArray) (by rw [t1, o1, ← tk g n s bd hb]; exact run_partG (by kernel_rfl) (by kernel_rfl) (by kernel_rfl)) (by rw [t1, o1, ← tk g' n' s' bd' hb']; exact run_partG (by kernel_rfl) (by kernel_rfl) (by kernel_rfl)) (by rw [t1]; exact eq_bytes (d := 9997) 5 hb hb') ?_
    refine eqFields_cons (h3 _ (by simp)) (a := .int .u32 (n : Int)) (b := .int .u32 (n' : Int)) (by rw [t2, o2]; exact run_partS sc32 (hdrC_33 hb)) (by rw [t2, o2]; exact run_partS sc32 (hdrC_33 hb')) (by rw [t2]; exact run_equalIn_int w 9998 _ .u32 .u32 _ _ (by kernel_rfl)) ?_
    exact eqFields_cons (h3 _ (by simp)) (a := .int .u32 (s : Int)) (b := .int .u32 (s' : Int)) (by rw [t3, o3]; exact run_partS sc32 (hdrC_34 hb)) (by rw [t3, o3]; exact run_partS sc32 (hdrC_34 hb')) (by rw [t3]; exact run_equalIn_int w 9998 _ .u32 .u32 _ _ (by kernel_rfl)) rfl
  rw [key]
  congr 1
  rw [Bool.eq_iff_iff]
  simp only [Bool.and_eq_true, beq_iff_eq, decide_eq_true_eq, and_true, Int.natCast_inj]
theorem hdr_refl {v : List Value} {l : List UInt8} (hv : v = (decH l).1) : (Op.equalIn 10000 32 (.agg v.toArray) (.agg v.toArray)).run Try.prog w = .ok true w := by
  have : ∃ g bd n s, bd.length = 32 ∧ v = hdrC g bd n s := by
    rw [hv]
    unfold decH
    split
    · exact ⟨_, zb, _, _, rfl, rfl⟩
    split
    · exact ⟨_, zb, _, _, rfl, rfl⟩
    split
    · exact ⟨_, zb, _, _, rfl, rfl⟩
    split
    · exact ⟨_, zb, _, _, rfl, rfl⟩
    exact ⟨_, _, _, _, sub_length (by omega), rfl⟩
  obtain ⟨g, bd, n, s, hb, rfl⟩ := this
  rw [hdr_eq hb hb, decide_eq_true ⟨rfl, rfl, rfl, rfl⟩]

theorem headerRoundTrip_c {g n s : Nat} {bd : List UInt8} (hbd : bd.length = 32) (hg : g < 18446744073709551616) (hn : n < 4294967296) (hs : s < 4294967296) (hQ : ∀ w', Ext w w' (fun _ => False) → Q (.bool true) w') :
    CallE Try.prog 5 #[.agg (hdrC g bd n s).toArray] w Q := by
  apply C.law34_ImageHeaderRoundTrip
  unfold W.law34_ImageHeaderRoundTrip
  refine al_i fun hb w1 hhb a1 e1 z1 => ?_
  change At w1 hb (hdrC g bd n s) 32 at a1
  refine ld_w a1 (fg ?_) (hs := by rw [hdrC_length hbd]; kernel_rfl)
  refine encodeHeader_c hbd hn hs fun w2 e2 => ft ?_
  refine decodeHeader_c fun w3 e3 => ⟨_, _, rfl, ?_⟩
  rw [decH_hdr hbd hg hn hs]
  refine al_st 35 (hdrC_length hbd) (hdrC_one _ _ _ _) fun xb w4 hxb a4 e4 z4 => ?_
  rw [mkS_size, hdr_length hbd]
  refine br_pos rfl (br_pos rfl ?_)
  refine ld_w a4 (fg ?_) (hs := by rw [hdrC_length hbd]; kernel_rfl)
  have a14 := ((a1.ext e2 (fun h => h)).ext e3 (fun h => h)).ext e4 (fun h => h)
  refine ld_w a14 (fg ?_) (hs := by rw [hdrC_length hbd]; kernel_rfl)
  refine qB (fun w => agg_eq (hdr_eq hbd hbd)) ?_
  refine br_pos (decide_eq_true ⟨rfl, rfl, rfl, rfl⟩) ?_
  refine ld_w a14 (fg ?_) (hs := by rw [hdrC_length hbd]; kernel_rfl)
  refine rencodeHeader_c hbd hn hs fun w5 e5 => ft ?_
  refine qB s_eq ?_
  refine br_pos (by simp) ?_
  exact awake_fin ((((e1.tr e2).tr e3).tr e4).tr e5) hQ

theorem pick4 {a b c d : ByteArray} (i : Nat) (hi : i < 4) : ∃ l : List UInt8, ([Value.string a, .string b, .string c, .string d] : List Value)[i]? = some (.string (mkS l)) := by
  have h : ∀ s : ByteArray, ∃ l : List UInt8, s = mkS l := fun s => ⟨_, mkS_of s⟩
  obtain rfl | rfl | rfl | rfl : i = 0 ∨ i = 1 ∨ i = 2 ∨ i = 3 := by omega
  · obtain ⟨l, rfl⟩ := h a; exact ⟨l, rfl⟩
  · obtain ⟨l, rfl⟩ := h b; exact ⟨l, rfl⟩
  · obtain ⟨l, rfl⟩ := h c; exact ⟨l, rfl⟩
  · obtain ⟨l, rfl⟩ := h d; exact ⟨l, rfl⟩

theorem headerAgrees_c {l : List UInt8} {g n s : Nat} {bd : List UInt8} {at_ c : Int} (hbd : bd.length = 32) (hg : g < 18446744073709551616) (hn : n < 4294967296) (hs : s < 4294967296) (hc0 : 0 ≤ c) (hc1 : c ≤ 255) (hQ : ∀ w', Ext w w' (fun _ => False) → Q (.bool true) w') :
    CallE Try.prog 6 #[.string (mkS l), .agg (hdrC g bd n s).toArray, .int .i64 at_, .int .u8 c] w Q := by
  obtain ⟨x, rfl⟩ := u8_of hc0 hc1
  apply C.law34_ImageHeaderAgrees
  unfold W.law34_ImageHeaderAgrees
  refine al_i fun hb w1 hhb a1 e1 z1 => ?_
  change At w1 hb (hdrC g bd n s) 32 at a1
  rw [mkS_size]
  refine br_of (fun _ => awake_fin e1 hQ) fun hle => ?_
  refine ld_w a1 (fg ?_) (hs := by rw [hdrC_length hbd]; kernel_rfl)
  refine rencodeHeader_c hbd hn hs fun w2 e2 => ft ?_
  have hl := hdr_length (g := g) (n := n) (s := s) hbd
  generalize hdr g bd n s = X at *
  rw [mkS_size, hl]
  refine mod_c (by omega) (by omega) (fi ?_)
  have hmb := modv_bd (v := at_) (n := ((64 : Nat) : Int)) (by omega)
  obtain ⟨k, hk⟩ := nat_of hmb.1
  rw [hk] at hmb ⊢
  refine ⟨fun _ => True, trivial, ?_⟩
  refine qST (s_hi (by omega) (by omega)) ?_
  rw [show IntKind.wrap .i64 ((k : Int) + 1) = ((k + 1 : Nat) : Int) from inc_nat (by omega)]
  refine qST (s_lo (by omega) (by omega)) ?_
  refine qST (s_hi (by omega) (by omega)) ?_
  refine al_i fun cb w3 hcb a3 e3 z3 => ⟨trivial, ?_⟩
  refine bsT (l := [x]) a3 rfl ⟨trivial, ?_⟩
  refine qST (s_add (by rw [List.length_take]; show _ + 1 < _; omega)) ?_
  refine qST (s_add (by rw [List.length_append, List.length_take, List.length_drop]; show _ + 1 + _ < _; omega)) ?_
  have e03 : Ext w w3 (fun _ => False) := (e1.tr e2).drew_.tr e3
  refine LoopW.nat 4 (fun i x w' => x = ((i : Int), ()) ∧ Ext w w' (fun _ => False)) ⟨rfl, e03⟩ ?_
  rintro i y w4 next hi ⟨rfl, e4⟩ hnext
  dsimp only
  by_cases hlt : i < 4
  case neg =>
    rw [decide_eq_false (by omega), br_false]
    exact awake_fin e4 hQ
  rw [decide_eq_true (by omega), br_true]
  obtain ⟨t, ht⟩ := pick4 i hlt
  refine rq_r (ag_x i 4 9 hlt ht) (ft ?_)
  refine decodeHeader_c fun w5 e5 => ⟨_, _, rfl, ?_⟩
  refine al_st 35 (decH_len t) (decH_one t) fun pb w6 hpb a6 e6 z6 => ?_
  refine rdecodeHeader_c fun w7 e7 => ⟨_, _, rfl, ?_⟩
  refine al_st 35 (decH_len t) (decH_one t) fun qb w8 hqb a8 e8 z8 => ?_
  refine ld_w ((a6.ext e7 (fun h => h)).ext e8 (fun h => h)) (fg ?_) (hs := by rw [decH_len]; kernel_rfl)
  refine ld_w a8 (fg ?_) (hs := by rw [decH_len]; kernel_rfl)
  refine qB (fun w => agg_ne (hdr_refl (l := t) rfl)) ?_
  rw [Bool.not_true, br_false]
  refine br_neg (by simp) ?_
  rw [inc_nat (by omega)]
  exact hnext hlt _ _ ⟨rfl, (((e4.tr e5).tr e6).tr e7).tr e8⟩
end
end Go.Proofs.Ytpgekajgbkbpkaa.Im
