/-
  Saving, loading and discarding an image: the plain form, and the program's functions over the code. No condition beyond those stated.
-/
import Derived.Test.YtpinpccamfhofaaGF
import Derived.Test.YtpinpccamfhofaaGB
import Derived.Test.YtpinpccamfhofaaGE
set_option linter.unusedVariables false
set_option linter.unusedSimpArgs false
set_option maxRecDepth 100000
namespace Go.Proofs.Ytpinpccamfhofaa.Hi
open Go Go.Ev Go.Proofs Go.Proofs.Ytpinpccamfhofaa.Im
open Go.Proofs.Ytpinpccamfhofaa.Bd (St Sec Dk Ok wr fl rd cut pOff pOn zs all new lose)

theorem strs_bd (l : List (List UInt8)) : Bd.strs l = strs l := rfl

/-- The program's disk at block p in state s, younger than the world U; the blocks K are not its own. -/
def Dsk (U : World) (p : Nat) (K : Nat → Prop) (w : World) (s : St) : Prop :=
  ∃ F, Dk w p s F ∧ (∀ b, F b → U.heap.size ≤ b ∧ b < w.heap.size ∧ ¬ K b) ∧ ∀ b, K b → b < w.heap.size
/-- What the disk may change. -/
def Xd (U : World) (K : Nat → Prop) : Nat → Prop := fun b => U.heap.size ≤ b ∧ ¬ K b

theorem Dk.tight {w : World} {p : Nat} {s : St} {F : Nat → Prop} (h : Dk w p s F) : Dk w p s (fun b => F b ∧ b < w.heap.size) := by
  obtain ⟨db, vb, vc, ca, cc, ka, kn, kc, lf, h, f1, f2, f3, f4, f5⟩ := h
  refine ⟨db, vb, vc, ca, cc, ka, kn, kc, lf, h, ⟨f1, h.d.lt⟩, ⟨f2, h.dur.lt⟩, ⟨f3, ?_⟩, fun b hb => ⟨f4 b hb, ?_⟩, fun q hq => ⟨f5 q hq, h.lk q hq⟩⟩
  · obtain ⟨sp, a, _⟩ := h.vis.at_
    exact a.lt
  · have := h.cac
    rw [hb] at this
    obtain ⟨sp, a, _⟩ := this.at_
    exact a.lt

section
variable {U w w' : World} {Q : Value → World → Prop} {p : Nat} {s : St} {K K' X : Nat → Prop}

theorem Dsk.grow (h : Dsk U p K w s) (e : Ext w w' (fun _ => False)) (hK : ∀ b, K' b → (K b ∨ w.heap.size ≤ b) ∧ b < w'.heap.size) : Dsk U p K' w' s := by
  obtain ⟨F, hd, hF, hk⟩ := h
  have hs := e.size
  refine ⟨F, hd.ext e (fun _ _ h => h), fun b hb => ⟨(hF b hb).1, by have := (hF b hb).2.1; omega, fun hc => ?_⟩, fun b hb => (hK b hb).2⟩
  rcases (hK b hc).1 with h | h
  · exact (hF b hb).2.2 h
  · have := (hF b hb).2.1; omega
theorem Dsk.same (h : Dsk U p K w s) (e : Ext w w' (fun _ => False)) : Dsk U p K w' s :=
  h.grow e fun b hb => ⟨.inl hb, by obtain ⟨F, _, _, hk⟩ := h; have := hk b hb; have := e.size; omega⟩
theorem Dsk.step (h : Dsk U p K w s) (e : Ext w w' X) (hX : ∀ b, b < w.heap.size → X b → K b) : Dsk U p K w' s := by
  obtain ⟨F, hd, hF, hk⟩ := h
  have hs := e.size
  refine ⟨F, hd.ext e (fun b hb hx => (hF b hb).2.2 (hX b (hF b hb).2.1 hx)), fun b hb => ⟨(hF b hb).1, by have := (hF b hb).2.1; omega, (hF b hb).2.2⟩, fun b hb => by have := hk b hb; omega⟩
theorem Dsk.mono (h : Dsk U p K w s) (hK : ∀ b, K' b → K b) : Dsk U p K' w s := by
  obtain ⟨F, hd, hF, hk⟩ := h
  exact ⟨F, hd, fun b hb => ⟨(hF b hb).1, (hF b hb).2.1, fun hc => (hF b hb).2.2 (hK b hc)⟩, fun b hb => hk b (hK b hb)⟩
theorem Dsk.k (h : Dsk U p K w s) {b : Nat} (hb : K b) : b < w.heap.size := by
  obtain ⟨F, _, _, hk⟩ := h
  exact hk b hb
theorem Xd.u {U : World} {K : Nat → Prop} (e0 : Ext U w (fun _ => False)) (e : Ext w w' (Xd U K)) : Ext U w' (fun _ => False) := e0.trans e (fun _ _ h => h) (fun b hb h => by have := h.1; omega)

theorem Dsk.after {F : Nat → Prop} (hF : ∀ b, F b → U.heap.size ≤ b ∧ b < w.heap.size ∧ ¬ K b) (hk : ∀ b, K b → b < w.heap.size) {s' : St} {F' : Nat → Prop} (hd : Dk w' p s' F') (e : Ext w w' F) (hn : ∀ b, F' b → F b ∨ w.heap.size ≤ b) (hU : U.heap.size ≤ w.heap.size) : Dsk U p K w' s' ∧ Ext w w' (Xd U K) := by
  have hs := e.size
  refine ⟨⟨_, Dk.tight hd, fun b hb => ⟨?_, hb.2, fun hc => ?_⟩, fun b hb => by have := hk b hb; omega⟩, e.mono fun b _ hb => ⟨(hF b hb).1, (hF b hb).2.2⟩⟩
  · rcases hn b hb.1 with h | h
    · exact (hF b h).1
    · omega
  · rcases hn b hb.1 with h | h
    · exact (hF b h).2.2 hc
    · have := hk b hc; omega
theorem Dsk.usz (h : Dsk U p K w s) : U.heap.size ≤ w.heap.size := by
  obtain ⟨F, ⟨db, vb, vc, ca, cc, ka, kn, kc, lf, h, f1, _⟩, hF, _⟩ := h
  have := hF p f1
  omega

theorem dnew_c {n : Nat} (h1 : 1 ≤ n) (h2 : n ≤ 4096) (e0 : Ext U w (fun _ => False)) (hK : ∀ b, K b → b < w.heap.size) (hQ : ∀ p w', Dsk U p K w' (new n) → Ext w w' (fun _ => False) → Q (.tuple #[.pointer (some ⟨p, 0, none⟩), .int .i64 0]) w') : CallE Try.prog 19 #[.int .i64 (n : Int)] w Q := by
  refine Bd.new_c h1 h2 fun p w1 hd e1 => hQ p w1 ⟨_, Dk.tight hd, fun b hb => ⟨?_, hb.2, fun hc => ?_⟩, fun b hb => ?_⟩ e1
  · have := e0.size; have := hb.1; omega
  · have := hK b hc; have := hb.1; omega
  · have := hK b hb; have := e1.size; omega
theorem dsize_c (h : Dsk U p K w s) (hQ : Q (.int .i64 (s.S.length : Int)) w) : CallE Try.prog 63 #[.pointer (some ⟨p, 0, none⟩)] w Q := by
  obtain ⟨F, hd, _⟩ := h
  exact Bd.size_c hd hQ
theorem dread_c {i : Int} (h : Dsk U p K w s) (hQ : Q (.tuple #[.string (mkS (rd s i).1), .int .i64 (rd s i).2]) w) : CallE Try.prog 66 #[.pointer (some ⟨p, 0, none⟩), .int .i64 i] w Q := by
  obtain ⟨F, hd, _⟩ := h
  exact Bd.read_c hd hQ
theorem dwrite_c {i : Int} {d : Sec} {m : Nat} (h : Dsk U p K w s) (hok : Ok m 1000000 s) (hQ : ∀ w', Dsk U p K w' (wr s i d).1 → Ext w w' (Xd U K) → Q (.int .i64 (wr s i d).2) w') :
    CallE Try.prog 64 #[.pointer (some ⟨p, 0, none⟩), .int .i64 i, .string (mkS d)] w Q := by
  have hU := h.usz
  obtain ⟨F, hd, hF, hk⟩ := h
  refine Bd.write_c hd hok fun w1 F1 hd1 e1 hn => ?_
  obtain ⟨h1, h2⟩ := Dsk.after hF hk hd1 e1 hn hU
  exact hQ w1 h1 h2
theorem dflush_c {m : Nat} (h : Dsk U p K w s) (hok : Ok m 1000000 s) (hQ : ∀ w', Dsk U p K w' (fl s).1 → Ext w w' (Xd U K) → Q (.int .i64 (fl s).2) w') :
    CallE Try.prog 65 #[.pointer (some ⟨p, 0, none⟩)] w Q := by
  have hU := h.usz
  obtain ⟨F, hd, hF, hk⟩ := h
  refine Bd.flush_c hd hok fun w1 hd1 e1 => ?_
  obtain ⟨h1, h2⟩ := Dsk.after hF hk hd1 e1 (fun _ h => .inl h) hU
  exact hQ w1 h1 h2
theorem don_c (h : Dsk U p K w s) (hQ : ∀ w', Dsk U p K w' (pOn s).1 → Ext w w' (Xd U K) → Q (.int .i64 (pOn s).2) w') : CallE Try.prog 44 #[.pointer (some ⟨p, 0, none⟩)] w Q := by
  have hU := h.usz
  obtain ⟨F, hd, hF, hk⟩ := h
  refine Bd.powerOn_c hd fun w1 hd1 e1 => ?_
  obtain ⟨h1, h2⟩ := Dsk.after hF hk hd1 e1 (fun _ h => .inl h) hU
  exact hQ w1 h1 h2
theorem doff_c {ka : Option Addr} {kn kc : Nat} {kl : List Bool} {m : Nat} (h : Dsk U p K w s) (hok : Ok m 1000000 s) (hk : Reads w ka (Bd.bls kl)) (hkn : kl.length = kn) (hkF : ∀ q : Addr, ka = some q → kl ≠ [] → q.block < U.heap.size)
    (hQ : ∀ w', Dsk U p K w' (pOff s kl).1 → Ext w w' (Xd U K) → Q (.int .i64 (pOff s kl).2) w') : CallE Try.prog 43 #[.pointer (some ⟨p, 0, none⟩), .slice ka kn kc] w Q := by
  have hU := h.usz
  obtain ⟨F, hd, hF, hk'⟩ := h
  refine Bd.powerOff_c hd hok hk hkn (fun q hq hne hc => by have := hkF q hq hne; have := (hF _ hc).1; omega) fun w1 hd1 e1 => ?_
  obtain ⟨h1, h2⟩ := Dsk.after hF hk' hd1 e1 (fun _ h => .inl h) hU
  exact hQ w1 h1 h2
theorem dcut_c {n : Int} {ka : Option Addr} {kn kc : Nat} {kl : List Bool} (h : Dsk U p K w s) (hk : Reads w ka (Bd.bls kl)) (hkn : kl.length = kn) (hkl : kn ≤ 140737488355328) (hkF : ∀ q : Addr, ka = some q → kl ≠ [] → q.block < U.heap.size)
    (hQ : ∀ w', Dsk U p K w' (cut s n kl) → Ext w w' (Xd U K) → Q (.tuple #[]) w') : CallE Try.prog 46 #[.pointer (some ⟨p, 0, none⟩), .int .i64 n, .slice ka kn kc] w Q := by
  have hU := h.usz
  obtain ⟨F, hd, hF, hk'⟩ := h
  refine Bd.cutAfter_c hd hk hkn hkl (fun q hq hne hc => by have := hkF q hq hne; have := (hF _ hc).1; omega) fun w1 F1 hd1 e1 hn => ?_
  obtain ⟨h1, h2⟩ := Dsk.after hF hk' hd1 e1 hn hU
  exact hQ w1 h1 h2
theorem dcontents_c {m : Nat} (h : Dsk U p K w s) (hok : Ok m 1000000 s) (hm : m ≤ 1000000) (hQ : ∀ a c w', Sl w' 9 1 a m c (strs s.S) → (∀ b, a = some ⟨b, 0, none⟩ → w.heap.size ≤ b) → Dsk U p K w' s → Ext w w' (fun _ => False) → Q (.slice a m c) w') :
    CallE Try.prog 26 #[.pointer (some ⟨p, 0, none⟩)] w Q := by
  have h0 := h
  obtain ⟨F, hd, hF, hk⟩ := h
  exact Bd.contents_c hd hok hm fun a c w1 s1 f1 e1 => hQ a c w1 s1 f1 (h0.same e1) e1

/-- Discard. -/
def dis (s : St) : St × Int := if (wr s 0 zs).2 ≠ 0 then wr s 0 zs else fl (wr s 0 zs).1
theorem Ok.dis {n m : Nat} {s : St} (h : Ok n m s) : Ok n (m + 1) (dis s).1 := by
  unfold Hi.dis
  split
  · exact h.wr 0 zs
  · exact (h.wr 0 zs).fl
theorem discard_c {n m : Nat} (h : Dsk U p K w s) (hok : Ok n m s) (hm : m + 1 ≤ 1000000) (hQ : ∀ w', Dsk U p K w' (dis s).1 → Ext w w' (Xd U K) → Q (.int .i64 (dis s).2) w') :
    CallE Try.prog 50 #[.pointer (some ⟨p, 0, none⟩)] w Q := by
  apply C.hibernate_Discard
  unfold W.hibernate_Discard
  refine repeat_c (x := 0) (n := 64) (by omega) fun w1 e1 => ft ?_
  refine dwrite_c (d := zs) (h.same e1) (hok.le (by omega)) fun w2 h2 e2 => fi ?_
  have e12 : Ext w w2 (Xd U K) := e1.of0.tr e2
  unfold dis at hQ
  by_cases hz : (wr s 0 zs).2 = 0
  case neg =>
    rw [if_pos hz] at hQ
    rw [show ((wr s 0 zs).2 != 0) = true by rw [bne_iff_ne]; exact hz, br_true]
    exact hQ w2 h2 e12
  rw [if_neg (by simp [hz])] at hQ
  rw [show ((wr s 0 zs).2 != 0) = false by rw [hz]; rfl, br_false]
  refine dflush_c h2 ((hok.wr 0 zs).le hm) fun w3 h3 e3 => fi ?_
  exact hQ w3 h3 (e12.tr e3)

/-- Writes one after the other, until one fails. -/
def wrs : St → Nat → List Sec → St × Int
  | s, _, [] => (s, 0)
  | s, n, d :: r => if (wr s n d).2 ≠ 0 then wr s n d else wrs (wr s n d).1 (n + 1) r
def sav2 (s : St) (h : Sec) : St × Int := if (fl s).2 ≠ 0 then fl s else if (wr (fl s).1 0 h).2 ≠ 0 then wr (fl s).1 0 h else fl (wr (fl s).1 0 h).1
def sav1 (s : St) (h : Sec) (r : List Sec) : St × Int := if (wrs s 1 r).2 ≠ 0 then wrs s 1 r else sav2 (wrs s 1 r).1 h
/-- Save, of the sectors h :: r. -/
def sav (s : St) (h : Sec) (r : List Sec) : St × Int := if s.S.length < r.length + 1 then (s, 8) else if (dis s).2 ≠ 0 then dis s else sav1 (dis s).1 h r
theorem wrs_snoc : ∀ (l : List Sec) (s : St) (n : Nat) (d : Sec), (wrs s n l).2 = 0 → wrs s n (l ++ [d]) = if (wr (wrs s n l).1 ((n + l.length : Nat) : Int) d).2 ≠ 0 then wr (wrs s n l).1 ((n + l.length : Nat) : Int) d else ((wr (wrs s n l).1 ((n + l.length : Nat) : Int) d).1, 0)
  | [], s, n, d, _ => by simp only [List.nil_append, wrs, List.length_nil, Nat.add_zero]; rfl
  | x :: l, s, n, d, h => by
    unfold wrs at h
    by_cases hx : (wr s n x).2 = 0
    · rw [if_neg (by simp [hx])] at h
      have ih := wrs_snoc l (wr s n x).1 (n + 1) d h
      rw [List.cons_append]
      have e1 : wrs s n (x :: (l ++ [d])) = wrs (wr s n x).1 (n + 1) (l ++ [d]) := by rw [wrs, if_neg (by simp [hx])]
      have e2 : wrs s n (x :: l) = wrs (wr s n x).1 (n + 1) l := by rw [wrs, if_neg (by simp [hx])]
      rw [e1, e2, ih, show n + 1 + l.length = n + (x :: l).length by rw [List.length_cons]; omega]
    · rw [if_pos hx] at h
      exact absurd h hx
theorem wrs_fail : ∀ (l r : List Sec) (s : St) (n : Nat), (wrs s n l).2 ≠ 0 → wrs s n (l ++ r) = wrs s n l
  | [], r, s, n, h => absurd rfl h
  | x :: l, r, s, n, h => by
    unfold wrs at h
    rw [List.cons_append]
    by_cases hx : (wr s n x).2 = 0
    · rw [if_neg (by simp [hx])] at h
      rw [wrs, if_neg (by simp [hx]), wrs_fail l r _ _ h]
      conv => rhs; rw [wrs, if_neg (by simp [hx])]
    · rw [wrs, if_pos hx]
      conv => rhs; rw [wrs, if_pos hx]
theorem Ok.wrs {n : Nat} : ∀ (l : List Sec) {m : Nat} {s : St} (i : Nat), Ok n m s → Ok n (m + l.length) (wrs s i l).1
  | [], m, s, i, h => h
  | x :: l, m, s, i, h => by
    unfold Hi.wrs
    split
    · exact (h.wr _ _).le (by rw [List.length_cons]; omega)
    · have := Ok.wrs l (i + 1) (h.wr (i : Int) x)
      rw [List.length_cons]
      exact this.le (by omega)

theorem save_k15 {n m sb k c : Nat} {hd : Sec} {r : List Sec} (h : Dsk U p K w s) (hok : Ok n m s) (hm : m + 1 ≤ 1000000) (hK : K sb) (hs : Sl w 9 1 (some ⟨sb, 0, none⟩) k c (strs (hd :: r)))
    (hQ : ∀ w', Dsk U p K w' (sav2 s hd).1 → Ext w w' (Xd U K) → Q (.int .i64 (sav2 s hd).2) w') : W.hibernate_Save_k15 ⟨p, 0, none⟩ (some ⟨sb, 0, none⟩) k c w Q := by
  unfold W.hibernate_Save_k15
  have hk := hs.len_
  rw [strs_length, List.length_cons, Nat.mul_one] at hk
  unfold sav2 at hQ
  refine dflush_c h (hok.le (by omega)) fun w1 h1 e1 => fi ?_
  by_cases hz : (fl s).2 = 0
  case neg =>
    rw [if_pos hz] at hQ
    rw [show ((fl s).2 != 0) = true by rw [bne_iff_ne]; exact hz, br_true]
    exact hQ w1 h1 e1
  rw [if_neg (by simp [hz])] at hQ
  rw [show ((fl s).2 != 0) = false by rw [hz]; rfl, br_false]
  refine ixb 0 1 9 (by omega) ?_
  have hs1 : Sl w1 9 1 (some ⟨sb, 0, none⟩) k c (strs (hd :: r)) := hs.ext e1 (fun b hb hx => by
    simp only [Option.some.injEq, Addr.mk.injEq, and_true] at hb
    subst hb
    exact hx.2 hK)
  refine slL (v := .string (mkS hd)) hs1 rfl (ft ?_)
  refine dwrite_c h1 (hok.fl.le (by omega)) fun w2 h2 e2 => fi ?_
  by_cases hw : (wr (fl s).1 0 hd).2 = 0
  case neg =>
    rw [if_pos hw] at hQ
    rw [show ((wr (fl s).1 0 hd).2 != 0) = true by rw [bne_iff_ne]; exact hw, br_true]
    exact hQ w2 h2 (e1.tr e2)
  rw [if_neg (by simp [hw])] at hQ
  rw [show ((wr (fl s).1 0 hd).2 != 0) = false by rw [hw]; rfl, br_false]
  refine dflush_c h2 ((hok.fl.wr 0 hd).le hm) fun w3 h3 e3 => fi ?_
  exact hQ w3 h3 ((e1.tr e2).tr e3)

/-- Save, of a valid image. -/
theorem save_c {n m g pn pc : Nat} {bd : List UInt8} {pa : Option Addr} {ps : List Pg} (h : Dsk U p K w s) (hok : Ok n m s) (hm : m + 3000 ≤ 1000000) (hbd : bd.length = 32) (hr : Reads w pa (ps.flatMap pgC)) (hn : ps.length = pn) (hP : OkP ps)
    (hQ : ∀ w', Dsk U p K w' (sav s (hdr g bd (bodyOf ps).length (crc (bodyOf ps)).toNat) (cuts (bodyOf ps))).1 → Ext w w' (Xd U K) → Q (.int .i64 (sav s (hdr g bd (bodyOf ps).length (crc (bodyOf ps)).toNat) (cuts (bodyOf ps))).2) w') :
    CallE Try.prog 21 #[.pointer (some ⟨p, 0, none⟩), .agg (imgC bd g pa pn pc).toArray] w Q := by
  apply C.hibernate_Save
  unfold W.hibernate_Save
  refine al_i fun ib w1 hib a1 e1 z1 => ?_
  change At w1 ib (imgC bd g pa pn pc) 41 at a1
  refine ld_w a1 (fg ?_) (hs := by rw [imgC_length hbd]; kernel_rfl)
  refine encode_c hbd (hr.ext e1 (fun _ _ _ h => h)) hn (fun hc => absurd hP hc) fun _ sb c2 w2 s2 f2 e2 => ⟨_, _, _, _, rfl, ?_⟩
  refine br_neg rfl ?_
  have e02 := e1.tr e2
  have hcount := cuts_count (bodyOf ps)
  have hbl := body_lt hP
  have hpl : padn (bodyOf ps).length < 64 := Nat.mod_lt _ (by omega)
  obtain ⟨sp2, at2, _⟩ := s2.at_
  have hlt2 := at2.lt
  have hsz := e1.size
  -- the sectors are kept
  have hd2 : Dsk U p (fun b => K b ∨ b = sb) w2 s := h.grow e02 fun b hb => by
    rcases hb with hb | hb
    · exact ⟨.inl hb, by have := h.k hb; have := e02.size; omega⟩
    · subst hb; exact ⟨.inr (by omega), hlt2⟩
  have back : ∀ {w' : World} {s' : St}, Dsk U p (fun b => K b ∨ b = sb) w' s' → Ext w2 w' (Xd U (fun b => K b ∨ b = sb)) → Dsk U p K w' s' ∧ Ext w w' (Xd U K) := fun hd e => ⟨hd.mono fun _ h => .inl h, e02.of0.trans e (fun _ _ h => h) fun b _ h => ⟨h.1, fun hc => h.2 (.inl hc)⟩⟩
  unfold secs at s2 ⊢
  generalize hdr g bd (bodyOf ps).length (crc (bodyOf ps)).toNat = H at *
  generalize cuts (bodyOf ps) = r at *
  have hrl : r.length ≤ 2200 := by omega
  rw [List.length_cons] at *
  refine dsize_c hd2 (fi ?_)
  unfold sav at hQ
  by_cases hfull : s.S.length < r.length + 1
  · rw [if_pos hfull] at hQ
    rw [decide_eq_true (by omega), br_true]
    obtain ⟨q1, q2⟩ := back hd2 (Ext.refl _ _)
    exact hQ w2 q1 q2
  rw [if_neg hfull] at hQ
  rw [decide_eq_false (by omega), br_false]
  refine discard_c hd2 hok (by omega) fun w3 h3 e3 => fi ?_
  by_cases hdz : (dis s).2 = 0
  case neg =>
    rw [if_pos hdz] at hQ
    rw [show ((dis s).2 != 0) = true by rw [bne_iff_ne]; exact hdz, br_true]
    obtain ⟨q1, q2⟩ := back h3 e3
    exact hQ w3 q1 q2
  rw [if_neg (by simp [hdz])] at hQ
  rw [show ((dis s).2 != 0) = false by rw [hdz]; rfl, br_false]
  have keep : ∀ {w' : World}, Ext w2 w' (Xd U (fun b => K b ∨ b = sb)) → Sl w' 9 1 (some ⟨sb, 0, none⟩) (r.length + 1) c2 (strs (H :: r)) := fun e => s2.ext e (fun b hb hx => by
    simp only [Option.some.injEq, Addr.mk.injEq, and_true] at hb
    exact hx.2 (.inr hb.symm))
  have hok3 := Ok.dis hok
  generalize (dis s).1 = s3 at *
  unfold sav1 at hQ
  refine LoopW.nat r.length (fun i x w' => x = (((i + 1 : Nat) : Int), ()) ∧ Dsk U p (fun b => K b ∨ b = sb) w' (wrs s3 1 (r.take i)).1 ∧ (wrs s3 1 (r.take i)).2 = 0 ∧ Ext w2 w' (Xd U (fun b => K b ∨ b = sb))) ⟨rfl, h3, rfl, e3⟩ ?_
  rintro i x w4 next hi ⟨rfl, h4, hz4, e4⟩ hnext
  dsimp only
  by_cases hlt : i < r.length
  case neg =>
    rw [decide_eq_false (by omega), br_false]
    rw [List.take_of_length_le (by omega)] at h4 hz4
    rw [if_neg (by simp [hz4])] at hQ
    have hok4 := Ok.wrs r 1 hok3
    refine save_k15 h4 hok4 (by omega) (.inr rfl) (keep e4) fun w5 h5 e5 => ?_
    obtain ⟨q1, q2⟩ := back h5 (e4.tr e5)
    exact hQ w5 q1 q2
  rw [decide_eq_true (by omega), br_true]
  refine ixb (i + 1) 1 9 (by omega) ?_
  rw [Nat.mul_one]
  have hg : (strs (H :: r))[i + 1]? = some (.string (mkS r[i])) := by
    unfold strs
    rw [List.map_cons, List.getElem?_cons_succ, List.getElem?_map, List.getElem?_eq_getElem hlt]
    rfl
  refine slL (keep e4) hg (ft ?_)
  have hok4 := Ok.wrs (r.take i) 1 hok3
  have htl : (r.take i).length = i := by rw [List.length_take]; omega
  rw [htl] at hok4
  refine dwrite_c h4 (hok4.le (by omega)) fun w5 h5 e5 => fi ?_
  have hsn := wrs_snoc (r.take i) s3 1 r[i] hz4
  rw [htl, List.take_append_getElem hlt, Nat.add_comm 1 i] at hsn
  by_cases hwz : (wr (wrs s3 1 (r.take i)).1 ((i + 1 : Nat) : Int) r[i]).2 = 0
  · rw [if_neg (fun h => h hwz)] at hsn
    rw [show ((wr (wrs s3 1 (r.take i)).1 ((i + 1 : Nat) : Int) r[i]).2 != 0) = false by rw [hwz]; rfl, br_false, inc_nat (by omega)]
    exact hnext hlt _ _ ⟨rfl, by rw [hsn]; exact h5, by rw [hsn], e4.tr e5⟩
  · rw [if_pos hwz] at hsn
    rw [show ((wr (wrs s3 1 (r.take i)).1 ((i + 1 : Nat) : Int) r[i]).2 != 0) = true by rw [bne_iff_ne]; exact hwz, br_true]
    have hall : wrs s3 1 r = wrs s3 1 (r.take (i + 1)) := by
      have := wrs_fail (r.take (i + 1)) (r.drop (i + 1)) s3 1 (by rw [hsn]; exact hwz)
      rwa [List.take_append_drop] at this
    rw [hall, hsn, if_pos hwz] at hQ
    obtain ⟨q1, q2⟩ := back h5 (e4.tr e5)
    exact hQ w5 q1 q2
end
end Go.Proofs.Ytpinpccamfhofaa.Hi
