/-
  The reference's disk: saving, loading and discarding an image over the code. No condition beyond those stated.
-/
import Derived.Test.YtpinpccamfhofaaHiA
set_option linter.unusedVariables false
set_option linter.unusedSimpArgs false
set_option maxRecDepth 100000
namespace Go.Proofs.Ytpinpccamfhofaa.Hi
open Go Go.Ev Go.Proofs Go.Proofs.Ytpinpccamfhofaa.Im
open Go.Proofs.Ytpinpccamfhofaa.Bd (St Sec Rk Ok wr fl rd cut pOff pOn zs all new lose)

/-- The reference's disk at block p in state s, younger than the world U; the blocks K are not its own. -/
def Rsk (U : World) (p : Nat) (K : Nat → Prop) (w : World) (s : St) : Prop :=
  ∃ F, Rk w p s F ∧ (∀ b, F b → U.heap.size ≤ b ∧ b < w.heap.size ∧ ¬ K b) ∧ ∀ b, K b → b < w.heap.size

theorem Rk.tight {w : World} {p : Nat} {s : St} {F : Nat → Prop} (h : Rk w p s F) : Rk w p s (fun b => F b ∧ b < w.heap.size) := by
  obtain ⟨sb, sc, ca, cc, ka, kn, kc, h, f1, f2, f4, f5⟩ := h
  refine ⟨sb, sc, ca, cc, ka, kn, kc, h, ⟨f1, h.d.lt⟩, ⟨f2, h.dur.lt⟩, fun b hb => ⟨f4 b hb, ?_⟩, fun q hq => ⟨f5 q hq, h.lk q hq⟩⟩
  have := h.cac
  rw [hb] at this
  exact this.lt

section
variable {U w w' : World} {Q : Value → World → Prop} {p : Nat} {s : St} {K K' X : Nat → Prop}

theorem Rsk.grow (h : Rsk U p K w s) (e : Ext w w' (fun _ => False)) (hK : ∀ b, K' b → (K b ∨ w.heap.size ≤ b) ∧ b < w'.heap.size) : Rsk U p K' w' s := by
  obtain ⟨F, hd, hF, hk⟩ := h
  have hs := e.size
  refine ⟨F, hd.ext e (fun _ _ h => h), fun b hb => ⟨(hF b hb).1, by have := (hF b hb).2.1; omega, fun hc => ?_⟩, fun b hb => (hK b hb).2⟩
  rcases (hK b hc).1 with h | h
  · exact (hF b hb).2.2 h
  · have := (hF b hb).2.1; omega
theorem Rsk.same (h : Rsk U p K w s) (e : Ext w w' (fun _ => False)) : Rsk U p K w' s :=
  h.grow e fun b hb => ⟨.inl hb, by obtain ⟨F, _, _, hk⟩ := h; have := hk b hb; have := e.size; omega⟩
theorem Rsk.step (h : Rsk U p K w s) (e : Ext w w' X) (hX : ∀ b, b < w.heap.size → X b → K b) : Rsk U p K w' s := by
  obtain ⟨F, hd, hF, hk⟩ := h
  have hs := e.size
  refine ⟨F, hd.ext e (fun b hb hx => (hF b hb).2.2 (hX b (hF b hb).2.1 hx)), fun b hb => ⟨(hF b hb).1, by have := (hF b hb).2.1; omega, (hF b hb).2.2⟩, fun b hb => by have := hk b hb; omega⟩
theorem Rsk.mono (h : Rsk U p K w s) (hK : ∀ b, K' b → K b) : Rsk U p K' w s := by
  obtain ⟨F, hd, hF, hk⟩ := h
  exact ⟨F, hd, fun b hb => ⟨(hF b hb).1, (hF b hb).2.1, fun hc => (hF b hb).2.2 (hK b hc)⟩, fun b hb => hk b (hK b hb)⟩
theorem Rsk.k (h : Rsk U p K w s) {b : Nat} (hb : K b) : b < w.heap.size := by
  obtain ⟨F, _, _, hk⟩ := h
  exact hk b hb

theorem Rsk.after {F : Nat → Prop} (hF : ∀ b, F b → U.heap.size ≤ b ∧ b < w.heap.size ∧ ¬ K b) (hk : ∀ b, K b → b < w.heap.size) {s' : St} {F' : Nat → Prop} (hd : Rk w' p s' F') (e : Ext w w' F) (hn : ∀ b, F' b → F b ∨ w.heap.size ≤ b) (hU : U.heap.size ≤ w.heap.size) : Rsk U p K w' s' ∧ Ext w w' (Xd U K) := by
  have hs := e.size
  refine ⟨⟨_, Rk.tight hd, fun b hb => ⟨?_, hb.2, fun hc => ?_⟩, fun b hb => by have := hk b hb; omega⟩, e.mono fun b _ hb => ⟨(hF b hb).1, (hF b hb).2.2⟩⟩
  · rcases hn b hb.1 with h | h
    · exact (hF b h).1
    · omega
  · rcases hn b hb.1 with h | h
    · exact (hF b h).2.2 hc
    · have := hk b hc; omega
theorem Rsk.usz (h : Rsk U p K w s) : U.heap.size ≤ w.heap.size := by
  obtain ⟨F, ⟨sb, sc, ca, cc, ka, kn, kc, h, f1, _⟩, hF, _⟩ := h
  have := hF p f1
  omega

theorem rdnew_c {n : Nat} (h1 : 1 ≤ n) (h2 : n ≤ 4096) (e0 : Ext U w (fun _ => False)) (hK : ∀ b, K b → b < w.heap.size) (hQ : ∀ p w', Rsk U p K w' (new n) → Ext w w' (fun _ => False) → Q (.tuple #[.pointer (some ⟨p, 0, none⟩), .int .i64 0]) w') : CallE Try.prog 47 #[.int .i64 (n : Int)] w Q := by
  refine Bd.rnew_c h1 h2 fun p w1 hd e1 => hQ p w1 ⟨_, Rk.tight hd, fun b hb => ⟨?_, hb.2, fun hc => ?_⟩, fun b hb => ?_⟩ e1
  · have := e0.size; have := hb.1; omega
  · have := hK b hc; have := hb.1; omega
  · have := hK b hb; have := e1.size; omega
theorem rdsize_c (h : Rsk U p K w s) (hQ : Q (.int .i64 (s.S.length : Int)) w) : CallE Try.prog 82 #[.pointer (some ⟨p, 0, none⟩)] w Q := by
  obtain ⟨F, ⟨sb, sc, ca, cc, ka, kn, kc, h, _⟩, _⟩ := h
  apply C.ref32_Disk_Size
  unfold W.ref32_Disk_Size
  simp only [add_mk, Nat.zero_add]
  refine ldL h.d rfl ?_
  exact hQ
theorem rdread_c {i : Int} {m : Nat} (h : Rsk U p K w s) (hok : Ok m 1000000 s) (hQ : Q (.tuple #[.string (mkS (rd s i).1), .int .i64 (rd s i).2]) w) : CallE Try.prog 85 #[.pointer (some ⟨p, 0, none⟩), .int .i64 i] w Q := by
  obtain ⟨F, hd, _⟩ := h
  exact Bd.rread_c hd hok hQ
theorem rdwrite_c {i : Int} {d : Sec} {m : Nat} (h : Rsk U p K w s) (hok : Ok m 1000000 s) (hQ : ∀ w', Rsk U p K w' (wr s i d).1 → Ext w w' (Xd U K) → Q (.int .i64 (wr s i d).2) w') :
    CallE Try.prog 83 #[.pointer (some ⟨p, 0, none⟩), .int .i64 i, .string (mkS d)] w Q := by
  have hU := h.usz
  obtain ⟨F, hd, hF, hk⟩ := h
  refine Bd.rwrite_c hd hok fun w1 F1 hd1 e1 hn => ?_
  obtain ⟨h1, h2⟩ := Rsk.after hF hk hd1 e1 hn hU
  exact hQ w1 h1 h2
theorem rdflush_c {m : Nat} (h : Rsk U p K w s) (hok : Ok m 1000000 s) (hQ : ∀ w', Rsk U p K w' (fl s).1 → Ext w w' (Xd U K) → Q (.int .i64 (fl s).2) w') :
    CallE Try.prog 84 #[.pointer (some ⟨p, 0, none⟩)] w Q := by
  have hU := h.usz
  obtain ⟨F, hd, hF, hk⟩ := h
  refine Bd.rflush_c hd hok fun w1 hd1 e1 => ?_
  obtain ⟨h1, h2⟩ := Rsk.after hF hk hd1 e1 (fun _ h => .inl h) hU
  exact hQ w1 h1 h2
theorem rdon_c (h : Rsk U p K w s) (hQ : ∀ w', Rsk U p K w' (pOn s).1 → Ext w w' (Xd U K) → Q (.int .i64 (pOn s).2) w') : CallE Try.prog 54 #[.pointer (some ⟨p, 0, none⟩)] w Q := by
  have hU := h.usz
  obtain ⟨F, hd, hF, hk⟩ := h
  refine Bd.rpowerOn_c hd fun w1 hd1 e1 => ?_
  obtain ⟨h1, h2⟩ := Rsk.after hF hk hd1 e1 (fun _ h => .inl h) hU
  exact hQ w1 h1 h2
theorem rdoff_c {ka : Option Addr} {kn kc : Nat} {kl : List Bool} {m : Nat} (h : Rsk U p K w s) (hok : Ok m 1000000 s) (hk : Reads w ka (Bd.bls kl)) (hkn : kl.length = kn) (hkF : ∀ q : Addr, ka = some q → kl ≠ [] → q.block < U.heap.size)
    (hQ : ∀ w', Rsk U p K w' (pOff s kl).1 → Ext w w' (Xd U K) → Q (.int .i64 (pOff s kl).2) w') : CallE Try.prog 53 #[.pointer (some ⟨p, 0, none⟩), .slice ka kn kc] w Q := by
  have hU := h.usz
  obtain ⟨F, hd, hF, hk'⟩ := h
  refine Bd.rpowerOff_c hd hok hk hkn (fun q hq hne hc => by have := hkF q hq hne; have := (hF _ hc).1; omega) fun w1 hd1 e1 => ?_
  obtain ⟨h1, h2⟩ := Rsk.after hF hk' hd1 e1 (fun _ h => .inl h) hU
  exact hQ w1 h1 h2
theorem rdcut_c {n : Int} {ka : Option Addr} {kn kc : Nat} {kl : List Bool} (h : Rsk U p K w s) (hk : Reads w ka (Bd.bls kl)) (hkn : kl.length = kn) (hkl : kn ≤ 140737488355328)
    (hQ : ∀ w', Rsk U p K w' (cut s n kl) → Ext w w' (Xd U K) → Q (.tuple #[]) w') : CallE Try.prog 52 #[.pointer (some ⟨p, 0, none⟩), .int .i64 n, .slice ka kn kc] w Q := by
  have hU := h.usz
  obtain ⟨F, hd, hF, hk'⟩ := h
  refine Bd.rcutAfter_c hd hk hkn hkl fun w1 F1 hd1 e1 hn => ?_
  obtain ⟨h1, h2⟩ := Rsk.after hF hk' hd1 e1 hn hU
  exact hQ w1 h1 h2
theorem rdcontents_c {m : Nat} (h : Rsk U p K w s) (hok : Ok m 1000000 s) (hm : m ≤ 1000000) (hQ : ∀ a c w', Sl w' 9 1 a m c (strs s.S) → (∀ b, a = some ⟨b, 0, none⟩ → w.heap.size ≤ b) → Rsk U p K w' s → Ext w w' (fun _ => False) → Q (.slice a m c) w') :
    CallE Try.prog 55 #[.pointer (some ⟨p, 0, none⟩)] w Q := by
  have h0 := h
  obtain ⟨F, hd, hF, hk⟩ := h
  exact Bd.rcontents_c hd hok hm fun a c w1 s1 f1 e1 => hQ a c w1 s1 f1 (h0.same e1) e1

theorem rdiscard_c {n m : Nat} (h : Rsk U p K w s) (hok : Ok n m s) (hm : m + 1 ≤ 1000000) (hQ : ∀ w', Rsk U p K w' (dis s).1 → Ext w w' (Xd U K) → Q (.int .i64 (dis s).2) w') :
    CallE Try.prog 51 #[.pointer (some ⟨p, 0, none⟩)] w Q := by
  apply C.ref35_Discard
  unfold W.ref35_Discard
  refine Pz.mk_b (by omega) (by omega) fun b w1 hb a1 e1 z1 => fs ?_
  rw [show (64 : Int).toNat = 64 from rfl] at *
  refine bsT (l := zs) a1 rfl ?_
  refine rdwrite_c (d := zs) (h.same e1) (hok.le (by omega)) fun w2 h2 e2 => fi ?_
  have e12 : Ext w w2 (Xd U K) := e1.of0.tr e2
  unfold dis at hQ
  by_cases hz : (wr s 0 zs).2 = 0
  case neg =>
    rw [if_pos hz] at hQ
    rw [show ((wr s 0 zs).2 != 0) = true by rw [bne_iff_ne]; exact hz, br_true]
    exact hQ w2 h2 e12
  rw [if_neg (by simp [hz])] at hQ
  rw [show ((wr s 0 zs).2 != 0) = false by rw [hz]; rfl, br_false]
  refine rdflush_c h2 ((hok.wr 0 zs).le hm) fun w3 h3 e3 => fi ?_
  exact hQ w3 h3 (e12.tr e3)

theorem rsave_k15 {n m sb k c : Nat} {hd : Sec} {r : List Sec} (h : Rsk U p K w s) (hok : Ok n m s) (hm : m + 1 ≤ 1000000) (hK : K sb) (hs : Sl w 9 1 (some ⟨sb, 0, none⟩) k c (strs (hd :: r)))
    (hQ : ∀ w', Rsk U p K w' (sav2 s hd).1 → Ext w w' (Xd U K) → Q (.int .i64 (sav2 s hd).2) w') : W.ref35_Save_k15 ⟨p, 0, none⟩ (some ⟨sb, 0, none⟩) k c w Q := by
  unfold W.ref35_Save_k15
  have hk := hs.len_
  rw [strs_length, List.length_cons, Nat.mul_one] at hk
  unfold sav2 at hQ
  refine rdflush_c h (hok.le (by omega)) fun w1 h1 e1 => fi ?_
  by_cases hz : (fl s).2 = 0
  case neg =>
    rw [if_pos hz] at hQ
    rw [show ((fl s).2 != 0) = true by rw [bne_iff_ne]; exact hz, br_true]
    exact hQ w1 h1 e1
  rw [if_neg (by simp [hz])] at hQ
  rw [show ((fl s).2 != 0) = false by rw [hz]; rfl, br_false]
  refine ixb 0 1 9 (by omega) ?_
  have hs1 : Sl w1 9 1 (some ⟨sb, 0, none⟩) k c (strs (hd :: r)) := hs.ext e1 (fun b hb hx => by
    simp only [Option.some.injEq, Addr.mk.injEq, and_true] at hb
    subst hb
    exact hx.2 hK)
  refine slL (v := .string (mkS hd)) hs1 rfl (ft ?_)
  refine rdwrite_c h1 (hok.fl.le (by omega)) fun w2 h2 e2 => fi ?_
  by_cases hw : (wr (fl s).1 0 hd).2 = 0
  case neg =>
    rw [if_pos hw] at hQ
    rw [show ((wr (fl s).1 0 hd).2 != 0) = true by rw [bne_iff_ne]; exact hw, br_true]
    exact hQ w2 h2 (e1.tr e2)
  rw [if_neg (by simp [hw])] at hQ
  rw [show ((wr (fl s).1 0 hd).2 != 0) = false by rw [hw]; rfl, br_false]
  refine rdflush_c h2 ((hok.fl.wr 0 hd).le hm) fun w3 h3 e3 => fi ?_
  exact hQ w3 h3 ((e1.tr e2).tr e3)

/-- Save, of a valid image. -/
theorem rsave_c {n m g pn pc : Nat} {bd : List UInt8} {pa : Option Addr} {ps : List Pg} (h : Rsk U p K w s) (hok : Ok n m s) (hm : m + 3000 ≤ 1000000) (hbd : bd.length = 32) (hr : Reads w pa (ps.flatMap pgC)) (hn : ps.length = pn) (hP : OkP ps)
    (hQ : ∀ w', Rsk U p K w' (sav s (hdr g bd (bodyOf ps).length (crc (bodyOf ps)).toNat) (cuts (bodyOf ps))).1 → Ext w w' (Xd U K) → Q (.int .i64 (sav s (hdr g bd (bodyOf ps).length (crc (bodyOf ps)).toNat) (cuts (bodyOf ps))).2) w') :
    CallE Try.prog 48 #[.pointer (some ⟨p, 0, none⟩), .agg (imgC bd g pa pn pc).toArray] w Q := by
  apply C.ref35_Save
  unfold W.ref35_Save
  refine al_i fun ib w1 hib a1 e1 z1 => ?_
  change At w1 ib (imgC bd g pa pn pc) 41 at a1
  refine ld_w a1 (fg ?_) (hs := by rw [imgC_length hbd]; kernel_rfl)
  refine rencode_c hbd (hr.ext e1 (fun _ _ _ h => h)) hn (fun hc => absurd hP hc) fun _ sb c2 w2 s2 f2 e2 => ⟨_, _, _, _, rfl, ?_⟩
  refine br_neg rfl ?_
  have e02 := e1.tr e2
  have hcount := cuts_count (bodyOf ps)
  have hbl := body_lt hP
  have hpl : padn (bodyOf ps).length < 64 := Nat.mod_lt _ (by omega)
  obtain ⟨sp2, at2, _⟩ := s2.at_
  have hlt2 := at2.lt
  have hsz := e1.size
  -- the sectors are kept
  have hd2 : Rsk U p (fun b => K b ∨ b = sb) w2 s := h.grow e02 fun b hb => by
    rcases hb with hb | hb
    · exact ⟨.inl hb, by have := h.k hb; have := e02.size; omega⟩
    · subst hb; exact ⟨.inr (by omega), hlt2⟩
  have back : ∀ {w' : World} {s' : St}, Rsk U p (fun b => K b ∨ b = sb) w' s' → Ext w2 w' (Xd U (fun b => K b ∨ b = sb)) → Rsk U p K w' s' ∧ Ext w w' (Xd U K) := fun hd e => ⟨hd.mono fun _ h => .inl h, e02.of0.trans e (fun _ _ h => h) fun b _ h => ⟨h.1, fun hc => h.2 (.inl hc)⟩⟩
  unfold secs at s2 ⊢
  generalize hdr g bd (bodyOf ps).length (crc (bodyOf ps)).toNat = H at *
  generalize cuts (bodyOf ps) = r at *
  have hrl : r.length ≤ 2200 := by omega
  rw [List.length_cons] at *
  refine rdsize_c hd2 (fi ?_)
  unfold sav at hQ
  by_cases hfull : s.S.length < r.length + 1
  · rw [if_pos hfull] at hQ
    rw [decide_eq_true (by omega), br_true]
    obtain ⟨q1, q2⟩ := back hd2 (Ext.refl _ _)
    exact hQ w2 q1 q2
  rw [if_neg hfull] at hQ
  rw [decide_eq_false (by omega), br_false]
  refine rdiscard_c hd2 hok (by omega) fun w3 h3 e3 => fi ?_
  by_cases hdz : (dis s).2 = 0
  case neg =>
    rw [if_pos hdz] at hQ
    rw [show ((dis s).2 != 0) = true by rw [bne_iff_ne]; exact hdz, br_true]
    obtain ⟨q1, q2⟩ := back h3 e3
    exact hQ w3 q1 q2
  rw [if_neg (by simp [hdz])] at hQ
  rw [show ((dis s).2 != 0) = false by rw [hdz]; rfl, br_false]
  have keep : ∀ {w' : World}, Ext w2 w' (Xd U (fun b => K b ∨ b = sb)) → Sl w' 9 1 (some ⟨sb, 0, none⟩) (r.length + 1) c2 (strs (H :: r)) := fun e => s2.ext e (fun b hb hx => by
    simp only [Option.some.injEq, Addr.mk.injEq, and_true] at hb
    exact hx.2 (.inr hb.symm))
  have hok3 := Ok.dis hok
  generalize (dis s).1 = s3 at *
  unfold sav1 at hQ
  refine LoopW.nat r.length (fun i x w' => x = (((i + 1 : Nat) : Int), ()) ∧ Rsk U p (fun b => K b ∨ b = sb) w' (wrs s3 1 (r.take i)).1 ∧ (wrs s3 1 (r.take i)).2 = 0 ∧ Ext w2 w' (Xd U (fun b => K b ∨ b = sb))) ⟨rfl, h3, rfl, e3⟩ ?_
  rintro i x w4 next hi ⟨rfl, h4, hz4, e4⟩ hnext
  dsimp only
  by_cases hlt : i < r.length
  case neg =>
    rw [decide_eq_false (by omega), br_false]
    rw [List.take_of_length_le (by omega)] at h4 hz4
    rw [if_neg (by simp [hz4])] at hQ
    have hok4 := Ok.wrs r 1 hok3
    refine rsave_k15 h4 hok4 (by omega) (.inr rfl) (keep e4) fun w5 h5 e5 => ?_
    obtain ⟨q1, q2⟩ := back h5 (e4.tr e5)
    exact hQ w5 q1 q2
  rw [decide_eq_true (by omega), br_true]
  refine ixb (i + 1) 1 9 (by omega) ?_
  rw [Nat.mul_one]
  have hg : (strs (H :: r))[i + 1]? = some (.string (mkS r[i])) := by
    unfold strs
    rw [List.map_cons, List.getElem?_cons_succ, List.getElem?_map, List.getElem?_eq_getElem hlt]
    rfl
  refine slL (keep e4) hg (ft ?_)
  have hok4 := Ok.wrs (r.take i) 1 hok3
  have htl : (r.take i).length = i := by rw [List.length_take]; omega
  rw [htl] at hok4
  refine rdwrite_c h4 (hok4.le (by omega)) fun w5 h5 e5 => fi ?_
  have hsn := wrs_snoc (r.take i) s3 1 r[i] hz4
  rw [htl, List.take_append_getElem hlt, Nat.add_comm 1 i] at hsn
  by_cases hwz : (wr (wrs s3 1 (r.take i)).1 ((i + 1 : Nat) : Int) r[i]).2 = 0
  · rw [if_neg (fun h => h hwz)] at hsn
    rw [show ((wr (wrs s3 1 (r.take i)).1 ((i + 1 : Nat) : Int) r[i]).2 != 0) = false by rw [hwz]; rfl, br_false, inc_nat (by omega)]
    exact hnext hlt _ _ ⟨rfl, by rw [hsn]; exact h5, by rw [hsn], e4.tr e5⟩
  · rw [if_pos hwz] at hsn
    rw [show ((wr (wrs s3 1 (r.take i)).1 ((i + 1 : Nat) : Int) r[i]).2 != 0) = true by rw [bne_iff_ne]; exact hwz, br_true]
    have hall : wrs s3 1 r = wrs s3 1 (r.take (i + 1)) := by
      have := wrs_fail (r.take (i + 1)) (r.drop (i + 1)) s3 1 (by rw [hsn]; exact hwz)
      rwa [List.take_append_drop] at this
    rw [hall, hsn, if_pos hwz] at hQ
    obtain ⟨q1, q2⟩ := back h5 (e4.tr e5)
    exact hQ w5 q1 q2
end
end Go.Proofs.Ytpinpccamfhofaa.Hi
