/-
  The statement HibernateDiskAgrees over the code. No condition beyond those stated.
-/
import Derived.Test.YtpinpccamfhofaaHiC
set_option linter.unusedVariables false
set_option linter.unusedSimpArgs false
set_option maxRecDepth 100000
namespace Go.Proofs.Ytpinpccamfhofaa.Hi
open Go Go.Ev Go.Proofs Go.Proofs.Ytpinpccamfhofaa.Im Go.ChangeShapes Go.WideShapes Go.ChangeAt Go.RowKit
open Go.Proofs.Ytpinpccamfhofaa.Bd (St Sec Dk Rk Ok wr fl rd cut pOff pOn zs all new lose KOk)

theorem Ok.sav {n m : Nat} {s : St} {h : Sec} {r : List Sec} (ho : Ok n m s) : Ok n (m + r.length + 2) (sav s h r).1 := by
  unfold Hi.sav
  split
  · exact ho.le (by omega)
  split
  · exact (Ok.dis ho).le (by omega)
  unfold sav1
  have h1 := Ok.wrs r 1 (Ok.dis ho)
  split
  · exact h1.le (by omega)
  unfold sav2
  split
  · exact h1.fl.le (by omega)
  split
  · exact (h1.fl.wr 0 h).le (by omega)
  · exact (h1.fl.wr 0 h).fl.le (by omega)
theorem Ok.loa {n m : Nat} {s : St} {bd : List UInt8} (ho : Ok n m s) : Ok n (m + 1) (loa s bd).1 := by
  unfold Hi.loa
  split
  · exact ho.le (by omega)
  split
  · exact ho.le (by omega)
  split
  · exact ho.le (by omega)
  split
  · exact ho.le (by omega)
  split
  · exact Ok.dis ho
  · exact Ok.dis ho
theorem decI_len {ss : List (List UInt8)} {r : List UInt8 × Nat × List Pg} (h : decI ss = .inr r) : r.1.length = 32 ∧ r.2.2.length ≤ 512 := by
  obtain ⟨b, g, ps⟩ := r
  refine ⟨decI_board h, ?_⟩
  unfold decI at h
  split at h
  · cases h
  split at h
  · cases h
  split at h
  · cases h
  split at h
  · cases h
  split at h
  · cases h
  split at h
  · cases h
  split at h
  · rename_i hv
    cases h
    unfold validP at hv
    simp only [Bool.and_eq_true, decide_eq_true_eq] at hv
    exact hv.1
  · cases h
theorem loa_len {s : St} {bd : List UInt8} {r : List UInt8 × Nat × List Pg} (h : (loa s bd).2 = .inr r) : r.1.length = 32 ∧ r.2.2.length ≤ 512 := by
  unfold loa at h
  split at h
  · cases h
  split at h
  · cases h
  split at h
  · cases h
  rename_i r' hd
  split at h
  · cases h
  split at h
  · cases h
  · cases h
    exact decI_len hd

/-- A call on a disk. -/
structure Dc where
  kind : Int
  pa : Option Addr
  pn : Nat
  pc : Nat
  rs : List Rw
  gen : Nat
  board : UInt8
  cut : Int
  ka : Option Addr
  kn : Nat
  kc : Nat
  kl : List Bool
instance : Inhabited Dc := ⟨⟨0, none, 0, 0, [], 0, 0, 0, none, 0, 0, []⟩⟩
def dcC (c : Dc) : List Value := [.int .i64 c.kind, .slice c.pa c.pn c.pc, .int .u64 (c.gen : Int), .int .u8 (c.board.toNat : Int), .int .i64 c.cut, .slice c.ka c.kn c.kc]
theorem dcC_len (c : Dc) : (dcC c).length = 6 := rfl
theorem dcC_one (c : Dc) : ∀ v ∈ dcC c, one v = true := by
  intro v hv
  simp only [dcC, List.mem_cons, List.not_mem_nil, or_false] at hv
  rcases hv with rfl | rfl | rfl | rfl | rfl | rfl <;> rfl
/-- A list of calls that came in. -/
structure Dcin (w : World) (l : Option Addr) (n : Nat) (cs : List Dc) : Prop where
  r : Reads w l (cs.flatMap dcC)
  hn : cs.length = n
  ok : ∀ c ∈ cs, Rin w c.pa c.pn c.rs ∧ KOk w c.ka c.kn c.kl

section
variable {H : Type} {enc : TypeId × Value → H}
theorem trod_raws {W : World} {n : Nat} {cs : List Value} {x : DataW H × List MemPlace} (h : DataW.trod enc Try.prog W 0 (fun _ => true) true n 33 cs = some x) (hw : Light Try.prog 33 x.1) :
    ∃ (l : Option Addr) (k c : Nat) (rs : List Rw), cs = [.slice l k c] ∧ Rin W l k rs := by
  rcases trod_slz (e := 81) (by kernel_rfl) h hw with hc | ⟨a, len, cap, hc, hlc, hcm, _, hi⟩
  · exact ⟨none, 0, 0, [], hc, .inl rfl, rfl, by simp, Nat.zero_le _⟩
  · have hc3 : Try.prog.cellsOf 81 = 3 := by kernel_rfl
    rw [hc3] at hi
    obtain ⟨l, hl, hr, hk, _⟩ := reads_rows (W := W) (a := a) (len := len) (m := 3) (f := Rw.cells) (R := fun c => Pz.U32s W c.wa c.wn ∧ 0 ≤ c.st ∧ c.st ≤ 255) (by omega) (fun _ => rfl) (fun i hi' => by
      obtain ⟨cs', n', y, hcl, hat, hy, _⟩ := hi i hi'
      obtain ⟨xs, m, _, _, _, hxl, hf⟩ := DataW.trod_struct (fs := structFs Try.prog 81) (by kernel_rfl) hy
      have hs3 : (structFs Try.prog 81).size = 3 := by kernel_rfl
      rw [hs3] at hxl
      match xs, hxl with
      | [x0, x1, x2], _ =>
        obtain ⟨n0, h0, _, w0⟩ := DataW.trod_int (k := .i64) (by kernel_rfl) (hf 0 _ rfl)
        obtain ⟨wa, wn, wc, h1, hu⟩ := trod_words (hf 1 _ rfl)
        obtain ⟨n2, h2, _, w2⟩ := DataW.trod_int (k := .u8) (by kernel_rfl) (hf 2 _ rfl)
        refine ⟨⟨n0, wa, wn, wc, n2⟩, ⟨hu, (int_of_wf w2).1, (int_of_wf w2).2⟩, fun j hj => ?_⟩
        rw [hat j hj]
        have e0 : (cs'.drop 0).take 1 = [.int .i64 n0] := h0
        have e1 : (cs'.drop 1).take 1 = [.slice wa wn wc] := h1
        have e2 : (cs'.drop 2).take 1 = [.int .u8 n2] := h2
        match cs', hcl with
        | [c0, c1, c2], _ =>
          simp at e0 e1 e2
          subst e0 e1 e2
          rfl)
    exact ⟨some a, len, cap, l, hc, hr, hl, hk, by rw [hl]; exact Nat.le_trans hlc hcm⟩
theorem open_dcs {W : World} {v : Value} {d : DataW H} {p : List MemPlace} {r : Reach} {b0 : Nat} (hv : Value.okWide Try.prog W r b0 95 v)
    (h : DataW.Trod enc Try.prog W 0 (fun _ => true) true 95 v d p) (hw : Light Try.prog 95 d) : ∃ (l : Option Addr) (n c : Nat) (cs : List Dc), v = .slice l n c ∧ Dcin W l n cs := by
  obtain ⟨n, h⟩ := trod_of h
  obtain ⟨a0, l0, c0, rfl⟩ := okWide_slice (t := 95) (e := 100) (by kernel_rfl) hv
  rcases trod_slz (e := 100) (by kernel_rfl) h hw with hc | ⟨a, len, cap, hc, _, _, _, hi⟩
  · exact ⟨none, 0, 0, [], by simpa [Value.cells] using hc, .inl rfl, rfl, by simp⟩
  · have hc6 : Try.prog.cellsOf 100 = 6 := by kernel_rfl
    rw [hc6] at hi
    obtain ⟨l, hl, hr, hk, _⟩ := reads_rows (W := W) (a := a) (len := len) (m := 6) (f := dcC) (R := fun c => Rin W c.pa c.pn c.rs ∧ KOk W c.ka c.kn c.kl) (by omega) (fun _ => rfl) (fun i hi' => by
      obtain ⟨cs', n', y, hcl, hat, hy, hlight⟩ := hi i hi'
      obtain ⟨xs, m, _, hyy, _, hxl, hf⟩ := DataW.trod_struct (fs := structFs Try.prog 100) (by kernel_rfl) hy
      have hs6 : (structFs Try.prog 100).size = 6 := by kernel_rfl
      rw [hs6] at hxl
      match xs, hxl with
      | [x0, x1, x2, x3, x4, x5], _ =>
        have hL : Light Try.prog 100 (.agg ([x0, x1, x2, x3, x4, x5].map (·.1))) := by rw [hyy] at hlight; exact hlight
        obtain ⟨n0, h0, _, w0⟩ := DataW.trod_int (k := .i64) (by kernel_rfl) (hf 0 _ rfl)
        have hl1 : Light Try.prog 33 x1.1 := light_part (t := 100) 1 hL rfl
        obtain ⟨pa, pn, pc, rs, h1, hrs⟩ := trod_raws (hf 1 _ rfl) hl1
        obtain ⟨n2, h2, _, w2⟩ := DataW.trod_int (k := .u64) (by kernel_rfl) (hf 2 _ rfl)
        obtain ⟨n3, h3, _, w3⟩ := DataW.trod_int (k := .u8) (by kernel_rfl) (hf 3 _ rfl)
        obtain ⟨n4, h4, _, w4⟩ := DataW.trod_int (k := .i64) (by kernel_rfl) (hf 4 _ rfl)
        have hl5 : Light Try.prog 78 x5.1 := light_part (t := 100) 5 hL rfl
        obtain ⟨ka, kn, kc, kl, h5, hkl⟩ := Bd.trod_bools (hf 5 _ rfl) hl5
        obtain ⟨g2, rfl⟩ := nat_of (int_of_wf w2).1
        obtain ⟨b3, rfl⟩ := u8_of (int_of_wf w3).1 (int_of_wf w3).2
        refine ⟨⟨n0, pa, pn, pc, rs, g2, b3, n4, ka, kn, kc, kl⟩, ⟨hrs, hkl⟩, fun j hj => ?_⟩
        rw [hat j hj]
        have e0 : (cs'.drop 0).take 1 = [.int .i64 n0] := h0
        have e1 : (cs'.drop 1).take 1 = [.slice pa pn pc] := h1
        have e2 : (cs'.drop 2).take 1 = [.int .u64 (g2 : Int)] := h2
        have e3 : (cs'.drop 3).take 1 = [.int .u8 (b3.toNat : Int)] := h3
        have e4 : (cs'.drop 4).take 1 = [.int .i64 n4] := h4
        have e5 : (cs'.drop 5).take 1 = [.slice ka kn kc] := h5
        match cs', hcl with
        | [c0, c1, c2, c3, c4, c5], _ =>
          simp at e0 e1 e2 e3 e4 e5
          subst e0 e1 e2 e3 e4 e5
          rfl)
    exact ⟨some a, len, cap, l, by simpa [Value.cells] using hc, hr, hl, hk⟩
end

/-- The program's disk and the reference's, apart from each other and from the blocks H. -/
def Bth (U : World) (p q : Nat) (H : Nat → Prop) (w : World) (s r : St) : Prop :=
  ∃ F G, Dk w p s F ∧ Rk w q r G ∧ (∀ b, F b → U.heap.size ≤ b ∧ b < w.heap.size ∧ ¬ H b) ∧ (∀ b, G b → U.heap.size ≤ b ∧ b < w.heap.size ∧ ¬ H b) ∧ (∀ b, F b → ¬ G b) ∧ ∀ b, H b → b < w.heap.size

section
variable {U w w' : World} {Q : Value → World → Prop} {p q : Nat} {s r : St} {H H' X : Nat → Prop}

theorem Bth.grow (h : Bth U p q H w s r) (e : Ext w w' (fun _ => False)) (hH : ∀ b, H' b → (H b ∨ w.heap.size ≤ b) ∧ b < w'.heap.size) : Bth U p q H' w' s r := by
  obtain ⟨F, G, hd, hr, hF, hG, hne, hh⟩ := h
  have hs := e.size
  refine ⟨F, G, hd.ext e (fun _ _ h => h), hr.ext e (fun _ _ h => h), fun b hb => ⟨(hF b hb).1, by have := (hF b hb).2.1; omega, fun hc => ?_⟩, fun b hb => ⟨(hG b hb).1, by have := (hG b hb).2.1; omega, fun hc => ?_⟩, hne, fun b hb => (hH b hb).2⟩
  · rcases (hH b hc).1 with h | h
    · exact (hF b hb).2.2 h
    · have := (hF b hb).2.1; omega
  · rcases (hH b hc).1 with h | h
    · exact (hG b hb).2.2 h
    · have := (hG b hb).2.1; omega
theorem Bth.same (h : Bth U p q H w s r) (e : Ext w w' (fun _ => False)) : Bth U p q H w' s r :=
  h.grow e fun b hb => ⟨.inl hb, by obtain ⟨F, G, _, _, _, _, _, hh⟩ := h; have := hh b hb; have := e.size; omega⟩
theorem Bth.mono (h : Bth U p q H w s r) (hH : ∀ b, H' b → H b) : Bth U p q H' w s r := by
  obtain ⟨F, G, hd, hr, hF, hG, hne, hh⟩ := h
  exact ⟨F, G, hd, hr, fun b hb => ⟨(hF b hb).1, (hF b hb).2.1, fun hc => (hF b hb).2.2 (hH b hc)⟩, fun b hb => ⟨(hG b hb).1, (hG b hb).2.1, fun hc => (hG b hb).2.2 (hH b hc)⟩, hne, fun b hb => hh b (hH b hb)⟩
theorem Bth.step (h : Bth U p q H w s r) (e : Ext w w' X) (hX : ∀ b, b < w.heap.size → X b → H b) : Bth U p q H w' s r := by
  obtain ⟨F, G, hd, hr, hF, hG, hne, hh⟩ := h
  have hs := e.size
  exact ⟨F, G, hd.ext e (fun b hb hx => (hF b hb).2.2 (hX b (hF b hb).2.1 hx)), hr.ext e (fun b hb hx => (hG b hb).2.2 (hX b (hG b hb).2.1 hx)), fun b hb => ⟨(hF b hb).1, by have := (hF b hb).2.1; omega, (hF b hb).2.2⟩, fun b hb => ⟨(hG b hb).1, by have := (hG b hb).2.1; omega, (hG b hb).2.2⟩, hne, fun b hb => by have := hh b hb; omega⟩
theorem Bth.k (h : Bth U p q H w s r) {b : Nat} (hb : H b) : b < w.heap.size := by
  obtain ⟨F, G, _, _, _, _, _, hh⟩ := h
  exact hh b hb
/-- The program's turn. -/
theorem Bth.left (h : Bth U p q H w s r) : ∃ K, Dsk U p K w s ∧ (∀ b, H b → K b) ∧ (∀ w' s', Dsk U p K w' s' → Ext w w' (Xd U K) → Bth U p q H w' s' r) ∧ ∀ w' s' (N : Nat → Prop), Dsk U p (fun b => K b ∨ N b) w' s' → Ext w w' (Xd U K) → (∀ b, N b → w.heap.size ≤ b) → Bth U p q (fun b => H b ∨ N b) w' s' r := by
  obtain ⟨F, G, hd, hr, hF, hG, hne, hh⟩ := h
  have key : ∀ w' s' (N : Nat → Prop), Dsk U p (fun b => (b < w.heap.size ∧ ¬ F b) ∨ N b) w' s' → Ext w w' (Xd U (fun b => b < w.heap.size ∧ ¬ F b)) → (∀ b, N b → w.heap.size ≤ b) → Bth U p q (fun b => H b ∨ N b) w' s' r := by
    intro w' s' N ⟨F', hd', hF', hk'⟩ e hN
    have hs := e.size
    refine ⟨F', G, hd', hr.ext e (fun b hb hx => hx.2 ⟨(hG b hb).2.1, fun hc => hne b hc hb⟩), fun b hb => ⟨(hF' b hb).1, (hF' b hb).2.1, fun hc => ?_⟩, fun b hb => ⟨(hG b hb).1, by have := (hG b hb).2.1; omega, fun hc => ?_⟩, fun b hb hc => ?_, fun b hb => ?_⟩
    · rcases hc with hc | hc
      · exact (hF' b hb).2.2 (.inl ⟨hh b hc, fun hx => (hF b hx).2.2 hc⟩)
      · exact (hF' b hb).2.2 (.inr hc)
    · rcases hc with hc | hc
      · exact (hG b hb).2.2 hc
      · have := hN b hc; have := (hG b hb).2.1; omega
    · exact (hF' b hb).2.2 (.inl ⟨(hG b hc).2.1, fun hx => hne b hx hc⟩)
    · rcases hb with hb | hb
      · exact hk' b (.inl ⟨hh b hb, fun hx => (hF b hx).2.2 hb⟩)
      · exact hk' b (.inr hb)
  refine ⟨fun b => b < w.heap.size ∧ ¬ F b, ⟨F, hd, fun b hb => ⟨(hF b hb).1, (hF b hb).2.1, fun hc => hc.2 hb⟩, fun b hb => hb.1⟩, fun b hb => ⟨hh b hb, fun hc => (hF b hc).2.2 hb⟩, fun w' s' d e => ?_, key⟩
  exact (key w' s' (fun _ => False) (d.mono fun b hb => by rcases hb with hb | hb; exact hb; exact hb.elim) e (fun _ h => h.elim)).mono fun b hb => .inl hb
/-- The reference's turn. -/
theorem Bth.right (h : Bth U p q H w s r) : ∃ K, Rsk U q K w r ∧ (∀ b, H b → K b) ∧ (∀ w' r', Rsk U q K w' r' → Ext w w' (Xd U K) → Bth U p q H w' s r') ∧ ∀ w' r' (N : Nat → Prop), Rsk U q (fun b => K b ∨ N b) w' r' → Ext w w' (Xd U K) → (∀ b, N b → w.heap.size ≤ b) → Bth U p q (fun b => H b ∨ N b) w' s r' := by
  obtain ⟨F, G, hd, hr, hF, hG, hne, hh⟩ := h
  have key : ∀ w' r' (N : Nat → Prop), Rsk U q (fun b => (b < w.heap.size ∧ ¬ G b) ∨ N b) w' r' → Ext w w' (Xd U (fun b => b < w.heap.size ∧ ¬ G b)) → (∀ b, N b → w.heap.size ≤ b) → Bth U p q (fun b => H b ∨ N b) w' s r' := by
    intro w' r' N ⟨G', hd', hG', hk'⟩ e hN
    have hs := e.size
    refine ⟨F, G', hd.ext e (fun b hb hx => hx.2 ⟨(hF b hb).2.1, fun hc => hne b hb hc⟩), hd', fun b hb => ⟨(hF b hb).1, by have := (hF b hb).2.1; omega, fun hc => ?_⟩, fun b hb => ⟨(hG' b hb).1, (hG' b hb).2.1, fun hc => ?_⟩, fun b hb hc => ?_, fun b hb => ?_⟩
    · rcases hc with hc | hc
      · exact (hF b hb).2.2 hc
      · have := hN b hc; have := (hF b hb).2.1; omega
    · rcases hc with hc | hc
      · exact (hG' b hb).2.2 (.inl ⟨hh b hc, fun hx => (hG b hx).2.2 hc⟩)
      · exact (hG' b hb).2.2 (.inr hc)
    · exact (hG' b hc).2.2 (.inl ⟨(hF b hb).2.1, fun hx => hne b hb hx⟩)
    · rcases hb with hb | hb
      · exact hk' b (.inl ⟨hh b hb, fun hx => (hG b hx).2.2 hb⟩)
      · exact hk' b (.inr hb)
  refine ⟨fun b => b < w.heap.size ∧ ¬ G b, ⟨G, hr, fun b hb => ⟨(hG b hb).1, (hG b hb).2.1, fun hc => hc.2 hb⟩, fun b hb => hb.1⟩, fun b hb => ⟨hh b hb, fun hc => (hG b hc).2.2 hb⟩, fun w' s' d e => ?_, key⟩
  exact (key w' s' (fun _ => False) (d.mono fun b hb => by rcases hb with hb | hb; exact hb; exact hb.elim) e (fun _ h => h.elim)).mono fun b hb => .inl hb

theorem disk_k33 {l pa qa : Option Addr} {ln lc xb yb g n m i pc qc : Nat} {e : Int} {bd : List UInt8} {ps : List Pg} {next : (Int × Unit) → World → Prop} (h : Bth U p q H w s s) (hok : Ok n m s) (hm : m ≤ 1000000) (hn : n ≤ 1000) (hx : At w xb (imgC bd g pa ps.length pc) 41) (hy : At w yb (imgC bd g qa ps.length qc) 41) (sx : Reads w pa (ps.flatMap pgC)) (sy : Reads w qa (ps.flatMap pgC)) (hbd : bd.length = 32) (hps : ps.length ≤ 1000) (hi : i ≤ 1000)
    (e0 : Ext U w (fun _ => False)) (hnext : ∀ w', Bth U p q (fun _ => False) w' s s → Ext U w' (fun _ => False) → next (((i + 1 : Nat) : Int), ()) w') :
    W.law35_HibernateDiskAgrees_k33 l ln lc (some ⟨p, 0, none⟩) (some ⟨q, 0, none⟩) (i : Int) e e ⟨xb, 0, none⟩ ⟨yb, 0, none⟩ next w Q := by
  unfold W.law35_HibernateDiskAgrees_k33
  refine br_neg (by simp) ?_
  refine ld_w hx (fg ?_) (hs := by rw [imgC_length hbd]; kernel_rfl)
  refine ld_w hy (fg ?_) (hs := by rw [imgC_length hbd]; kernel_rfl)
  refine equalImg_c hbd hbd sx sy rfl rfl (by omega) fun w1 e1 => fb ?_
  refine br_neg (by simp) ?_
  have h1 := h.same e1
  obtain ⟨F, G, hd, hr, _⟩ := h1
  refine Bd.contents_c hd (hok.le hm) (by omega) fun a2 c2 w2 s2 f2 e2 => fs ?_
  refine Bd.rcontents_c (hr.ext e2 (fun _ _ h => h)) (hok.le hm) (by omega) fun a3 c3 w3 s3 f3 e3 => fs ?_
  refine equalStrs_c (s2.ext e3 (fun _ _ h => h)).reads s3.reads hok.len hok.len (by omega) fun w4 e4 => fb ?_
  refine br_neg (by simp) ?_
  rw [inc_nat (by omega)]
  have e14 := (e1.tr e2).tr (e3.tr e4)
  exact hnext w4 ((h.same e14).mono fun _ h => h.elim) (e0.tr e14)

/-- What a call on both disks leaves. -/
def After (U : World) (p q n m : Nat) (w : World) : Prop := ∃ s, Bth U p q (fun _ => False) w s s ∧ Ok n m s ∧ Ext U w (fun _ => False)

theorem disk_k21 {l : Option Addr} {ln lc cb xb yb vb n m i : Nat} {c : Dc} {bd : List UInt8} {kd : Int} {b0 : Bool} {next : (Int × Unit) → World → Prop} (h : Bth U p q H w s s) (hok : Ok n m s) (hm : m ≤ 10000) (h1n : 1 ≤ n) (hn : n ≤ 1000) (hbd : bd.length = 32)
    (hc : At w cb (dcC c) 100) (kc' : H cb) (hv : At w vb (by_ bd) 31) (kv : H vb) (hx : At w xb (imgC zb 0 none 0 0) 41) (kx : H xb) (hy : At w yb (imgC zb 0 none 0 0) 41) (ky : H yb) (nxy : xb ≠ yb) (nxv : xb ≠ vb) (ux : U.heap.size ≤ xb) (uy : U.heap.size ≤ yb)
    (hr : Rin U c.pa c.pn c.rs) (hk : KOk U c.ka c.kn c.kl) (hi : i ≤ 1000) (e0 : Ext U w (fun _ => False)) (hnext : ∀ w', After U p q n (m + 100) w' → next (((i + 1 : Nat) : Int), ()) w') :
    W.law35_HibernateDiskAgrees_k21 l ln lc (some ⟨p, 0, none⟩) (some ⟨q, 0, none⟩) (i : Int) ⟨cb, 0, none⟩ 0 0 ⟨xb, 0, none⟩ ⟨yb, 0, none⟩ ⟨vb, 0, none⟩ kd b0 next w Q := by
  unfold W.law35_HibernateDiskAgrees_k21
  have hzb : zb.length = 32 := rfl
  simp only [add_mk, Nat.zero_add]
  -- the end, when nothing was loaded
  have fin : ∀ {w' : World} {s' : St} {H' : Nat → Prop} {e : Int}, Bth U p q H' w' s' s' → Ok n (m + 100) s' → At w' xb (imgC zb 0 none 0 0) 41 → At w' yb (imgC zb 0 none 0 0) 41 → Ext U w' (fun _ => False) → W.law35_HibernateDiskAgrees_k33 l ln lc (some ⟨p, 0, none⟩) (some ⟨q, 0, none⟩) (i : Int) e e ⟨xb, 0, none⟩ ⟨yb, 0, none⟩ next w' Q :=
    fun hb ho hx hy e' => disk_k33 (ps := []) hb ho (by omega) hn hx hy (.inl rfl) (.inl rfl) hzb (by simp) hi e' fun w'' hb'' e'' => hnext w'' ⟨_, hb'', ho, e''⟩
  refine br_of (fun _ => ?_) fun _ => br_of (fun _ => ?_) fun _ => br_of (fun _ => ?_) fun _ => br_of (fun _ => ?_) fun _ => br_of (fun _ => ?_) fun _ => ?_
  · -- Save
    refine ld_w hv (fg ?_) (hs := by rw [by_length, hbd]; kernel_rfl)
    refine ldI hc rfl ?_
    refine ldL hc rfl ?_
    refine some_c (rc := c.pc) (g := c.gen) (hr.ext e0) hbd fun ps pa pc w1 hP h6 s1 f1 e1 => fg ?_
    refine al_st 34 (imgC_length hbd) (imgC_one _ _ _ _ _) fun mb w2 hmb a2 e2 z2 => ?_
    have e12 := e1.tr e2
    have e12d : Ext w (drew w2) (fun _ => False) := e12.drew_
    have s2 : Sl (drew w2) 85 2 pa ps.length pc (ps.flatMap pgC) := (s1.ext e2 (fun _ _ h => h)).ext (w' := drew w2) (Ext.refl w2 (fun _ => False)).drew_ (fun _ _ h => h)
    have lm : mb < (drew w2).heap.size := a2.lt
    have lp : ∀ b, pa = some ⟨b, 0, none⟩ → b < (drew w2).heap.size := fun b hb => by
      subst hb
      exact s2.lt
    have hz1 := e1.size
    have hz12 := e12d.size
    have hsm := secs_small (g := c.gen) (bd := bd) hP h6
    rw [secs_cons, List.length_cons] at hsm
    have h2 : Bth U p q (fun b => H b ∨ b = mb ∨ pa = some ⟨b, 0, none⟩) (drew w2) s s := h.grow e12d fun b hb => by
      rcases hb with hb | hb | hb
      · exact ⟨.inl hb, by have := h.k hb; omega⟩
      · subst hb; exact ⟨.inr (by omega), lm⟩
      · exact ⟨.inr (f1 b hb), lp b hb⟩
    obtain ⟨K, hd, hHK, bk, _⟩ := h2.left
    have x2 := hx.ext e12d (fun h => h)
    have y2 := hy.ext e12d (fun h => h)
    have e02 := e0.tr e12d
    refine ⟨fun w' => At w' mb (imgC bd c.gen pa ps.length pc) 41, a2.drew_, ?_⟩
    refine ldS_g (fun _ h => h) (fg ?_) (hs := by rw [imgC_length hbd]; kernel_rfl)
    refine ldS_g (fun _ h => h) (fg ?_) (hs := by rw [imgC_length hbd]; kernel_rfl)
    refine save_c hd hok (by omega) hbd s2.reads rfl hP fun w3 d3 e3 => fi ?_
    have h3 := bk w3 _ d3 e3
    have a3 := At.held a2.drew_ e3 (hHK _ (.inr (.inl rfl)))
    refine ⟨a3, ?_⟩
    have s3 := Sl.held s2 e3 (fun b hb => hHK b (.inr (.inr hb)))
    have x3 := At.held x2 e3 (hHK _ (.inl kx))
    have y3 := At.held y2 e3 (hHK _ (.inl ky))
    have e03 := Xd.u e02 e3
    obtain ⟨K', hd', hHK', bk', _⟩ := h3.right
    refine rsave_c hd' hok (by omega) hbd s3.reads rfl hP fun w4 d4 e4 => fi ?_
    have h4 := bk' w4 _ d4 e4
    refine ⟨At.held a3 e4 (hHK' _ (.inr (.inl rfl))), ?_⟩
    exact fin h4 ((Ok.sav hok).le (by omega)) (At.held x3 e4 (hHK' _ (.inl kx))) (At.held y3 e4 (hHK' _ (.inl ky))) (Xd.u e03 e4)
  · -- Load
    refine ld_w hv (fg ?_) (hs := by rw [by_length, hbd]; kernel_rfl)
    obtain ⟨K, hd, hHK, bk, bkN⟩ := h.left
    have hok' := Ok.loa (bd := bd) hok
    refine load_c hd hok (by omega) h1n (by omega) hbd (fun e he w1 d1 e1 => ⟨_, _, rfl, ?_⟩) (fun r hrr a1 c1 w1 s1 f1 d1 e1 => ⟨_, _, rfl, ?_⟩)
    · have h1 := bk w1 _ d1 e1
      have e01 := Xd.u e0 e1
      have x1 := At.held hx e1 (hHK _ kx)
      have y1 := At.held hy e1 (hHK _ ky)
      have v1 := At.held hv e1 (hHK _ kv)
      refine st_w 34 x1 rfl (imgC_length hzb) (imgC_one _ _ _ _ _) fun w2 a2 e2 z2 => ?_
      have h2 := h1.step e2 (fun b _ hb => by subst hb; exact kx)
      have e02 : Ext U w2 (fun _ => False) := e01.trans e2 (fun _ _ h => h) (fun b hb hc => by omega)
      have v2 := v1.ext e2 (Ne.symm nxv)
      have y2 := y1.ext e2 (Ne.symm nxy)
      refine ld_w v2 (fg ?_) (hs := by rw [by_length, hbd]; kernel_rfl)
      obtain ⟨K', hd', hHK', bk', _⟩ := h2.right
      refine rload_c hd' hok (by omega) h1n (by omega) hbd (fun e' he' w3 d3 e3 => ⟨_, _, rfl, ?_⟩) (fun r hrr => by rw [he] at hrr; cases hrr)
      rw [he] at he'
      cases he'
      have h3 := bk' w3 _ d3 e3
      refine st_w 34 (At.held y2 e3 (hHK' _ ky)) rfl (imgC_length hzb) (imgC_one _ _ _ _ _) fun w4 a4 e4 z4 => ?_
      have h4 := h3.step e4 (fun b _ hb => by subst hb; exact ky)
      have e04 : Ext U w4 (fun _ => False) := (Xd.u e02 e3).trans e4 (fun _ _ h => h) (fun b hb hc => by omega)
      exact fin h4 (hok'.le (by omega)) ((At.held a2 e3 (hHK' _ kx)).ext e4 nxy) a4 e04
    · obtain ⟨hb32, hpl⟩ := loa_len hrr
      have h1 := bkN w1 _ _ d1 e1 f1
      have e01 := Xd.u e0 e1
      have x1 := At.held hx e1 (hHK _ kx)
      have y1 := At.held hy e1 (hHK _ ky)
      have v1 := At.held hv e1 (hHK _ kv)
      have lx := hx.lt
      have ly := hy.lt
      have lv := hv.lt
      refine st_w 34 x1 rfl (imgC_length hb32) (imgC_one _ _ _ _ _) fun w2 a2 e2 z2 => ?_
      have h2 := h1.step e2 (fun b _ hb => by subst hb; exact .inl kx)
      have e02 : Ext U w2 (fun _ => False) := e01.trans e2 (fun _ _ h => h) (fun b hb hc => by omega)
      have v2 := v1.ext e2 (Ne.symm nxv)
      have y2 := y1.ext e2 (Ne.symm nxy)
      have s2 := s1.ext e2 (fun b hb hc => by have := f1 b hb; omega)
      refine ld_w v2 (fg ?_) (hs := by rw [by_length, hbd]; kernel_rfl)
      obtain ⟨K', hd', hHK', bk', bkN'⟩ := h2.right
      refine rload_c hd' hok (by omega) h1n (by omega) hbd (fun e' he' => by rw [hrr] at he'; cases he') (fun r' hrr' a3 c3 w3 s3 f3 d3 e3 => ⟨_, _, rfl, ?_⟩)
      rw [hrr] at hrr'
      cases hrr'
      have h3 := bkN' w3 _ _ d3 e3 f3
      have hz1 := e1.size
      have hz2 := e2.size
      refine st_w 34 (At.held y2 e3 (hHK' _ (.inl ky))) rfl (imgC_length hb32) (imgC_one _ _ _ _ _) fun w4 a4 e4 z4 => ?_
      have h4 := h3.step e4 (fun b _ hb => by subst hb; exact .inl (.inl ky))
      have e04 : Ext U w4 (fun _ => False) := (Xd.u e02 e3).trans e4 (fun _ _ h => h) (fun b hb hc => by omega)
      have s4 := (Sl.held s2 e3 (fun b hb => hHK' b (.inr hb))).ext e4 (fun b hb hc => by have := f1 b hb; omega)
      have s34 := s3.ext e4 (fun b hb hc => by have := f3 b hb; omega)
      exact disk_k33 h4 hok' (by omega) hn ((At.held a2 e3 (hHK' _ (.inl kx))).ext e4 nxy) a4 s4.reads s34.reads hb32 (by omega) hi e04 fun w'' hb'' e'' => hnext w'' ⟨_, hb'', hok'.le (by omega), e''⟩
  · -- Discard
    obtain ⟨K, hd, hHK, bk, _⟩ := h.left
    refine discard_c hd hok (by omega) fun w1 d1 e1 => fi ?_
    have h1 := bk w1 _ d1 e1
    obtain ⟨K', hd', hHK', bk', _⟩ := h1.right
    refine rdiscard_c hd' hok (by omega) fun w2 d2 e2 => fi ?_
    exact fin (bk' w2 _ d2 e2) ((Ok.dis hok).le (by omega)) (At.held (At.held hx e1 (hHK _ kx)) e2 (hHK' _ kx)) (At.held (At.held hy e1 (hHK _ ky)) e2 (hHK' _ ky)) (Xd.u (Xd.u e0 e1) e2)
  · -- CutAfter
    have ed : Ext w (drew w) (fun _ => False) := (Ext.refl w _).drew_
    refine ⟨fun w' => At w' cb (dcC c) 100, hc.drew_, ?_⟩
    refine ldS_i (fun _ h => h) rfl (fi ?_)
    refine ldS_i (fun _ h => h) rfl (fs ?_)
    refine mod_c (by omega) (by omega) (fi ⟨hc.drew_, ?_⟩)
    have hmb := modv_bd (v := c.cut) (n := 12) (by omega)
    obtain ⟨K, hd, hHK, bk, _⟩ := (h.same ed).left
    have hk0 := hk.ext (e0.tr ed)
    refine dcut_c (n := modv c.cut 12) hd hk0.r hk0.n hk0.le hk.lt fun w1 d1 e1 => ⟨rfl, ?_⟩
    have h1 := bk w1 _ d1 e1
    have c1 := At.held hc.drew_ e1 (hHK _ kc')
    refine ⟨c1, ?_⟩
    have ed1 : Ext w1 (drew w1) (fun _ => False) := (Ext.refl w1 _).drew_
    refine ⟨fun w' => At w' cb (dcC c) 100, c1.drew_, ?_⟩
    refine ldS_i (fun _ h => h) rfl (fi ?_)
    refine ldS_i (fun _ h => h) rfl (fs ?_)
    refine mod_c (by omega) (by omega) (fi ⟨c1.drew_, ?_⟩)
    obtain ⟨K', hd', hHK', bk', _⟩ := (h1.same ed1).right
    have e01 := (Xd.u (e0.tr ed) e1).tr ed1
    have hk1 := hk.ext e01
    refine rdcut_c (n := modv c.cut 12) hd' hk1.r hk1.n hk1.le fun w2 d2 e2 => ⟨rfl, ?_⟩
    refine ⟨At.held c1.drew_ e2 (hHK' _ kc'), ?_⟩
    exact fin (bk' w2 _ d2 e2) ((hok.cut (by omega) _).le (by omega)) (At.held (At.held hx.drew_ e1 (hHK _ kx)).drew_ e2 (hHK' _ kx)) (At.held (At.held hy.drew_ e1 (hHK _ ky)).drew_ e2 (hHK' _ ky)) (Xd.u e01 e2)
  · -- PowerOff
    have ed : Ext w (drew w) (fun _ => False) := (Ext.refl w _).drew_
    refine ⟨fun w' => At w' cb (dcC c) 100, hc.drew_, ?_⟩
    refine ldS_i (fun _ h => h) rfl (fs ?_)
    refine ldS_i (fun _ h => h) rfl (fs ?_)
    obtain ⟨K, hd, hHK, bk, _⟩ := (h.same ed).left
    have hk0 := hk.ext (e0.tr ed)
    refine doff_c hd (hok.le (by omega)) hk0.r hk0.n hk.lt fun w1 d1 e1 => fi ?_
    have h1 := bk w1 _ d1 e1
    have c1 := At.held hc.drew_ e1 (hHK _ kc')
    refine ⟨c1, ?_⟩
    obtain ⟨K', hd', hHK', bk', _⟩ := h1.right
    have e01 := Xd.u (e0.tr ed) e1
    have hk1 := hk.ext e01
    refine rdoff_c hd' (hok.le (by omega)) hk1.r hk1.n hk.lt fun w2 d2 e2 => fi ?_
    refine ⟨At.held c1 e2 (hHK' _ kc'), ?_⟩
    exact fin (bk' w2 _ d2 e2) ((hok.pOff _).le (by omega)) (At.held (At.held hx.drew_ e1 (hHK _ kx)) e2 (hHK' _ kx)) (At.held (At.held hy.drew_ e1 (hHK _ ky)) e2 (hHK' _ ky)) (Xd.u e01 e2)
  · -- PowerOn
    obtain ⟨K, hd, hHK, bk, _⟩ := h.left
    refine don_c hd fun w1 d1 e1 => fi ?_
    have h1 := bk w1 _ d1 e1
    obtain ⟨K', hd', hHK', bk', _⟩ := h1.right
    refine rdon_c hd' fun w2 d2 e2 => fi ?_
    exact fin (bk' w2 _ d2 e2) (hok.pOn.le (by omega)) (At.held (At.held hx e1 (hHK _ kx)) e2 (hHK' _ kx)) (At.held (At.held hy e1 (hHK _ ky)) e2 (hHK' _ ky)) (Xd.u (Xd.u e0 e1) e2)

theorem diskAgrees_c {l : Option Addr} {ln lc : Nat} {cs : List Dc} {sectors : Int} (hC : Dcin w l ln cs) (hQ : ∀ w', Ext w w' (fun _ => False) → Q (.bool true) w') :
    CallE Try.prog 12 #[.int .i64 sectors, .slice l ln lc] w Q := by
  apply C.law35_HibernateDiskAgrees
  unfold W.law35_HibernateDiskAgrees
  refine br_of (fun _ => awake_fin (Ext.refl _ _) hQ) fun hle => ?_
  have h12 : ln ≤ 12 := by have := of_decide_eq_false hle; omega
  have hn := hC.hn
  refine mod_c (by omega) (by omega) (fi ?_)
  have hmb := modv_bd (v := sectors) (n := 30) (by omega)
  obtain ⟨m, hm⟩ := nat_of hmb.1
  rw [hm] at hmb ⊢
  rw [show IntKind.wrap .i64 (1 + (m : Int)) = ((m + 1 : Nat) : Int) by rw [wrap_i64 (by omega) (by omega)]; omega]
  refine Bd.new_c (by omega) (by omega) fun p w1 d1 e1 => ⟨_, _, rfl, ?_⟩
  refine Bd.rnew_c (by omega) (by omega) fun q w2 d2 e2 => ⟨_, _, rfl, ?_⟩
  refine br_neg rfl (br_neg rfl ?_)
  refine eq_nil (fb (br_neg rfl ?_))
  have hz1 := e1.size
  have hz2 := e2.size
  have hB : Bth w p q (fun _ => False) w2 (new (m + 1)) (new (m + 1)) := by
    refine ⟨fun b => w.heap.size ≤ b ∧ b < w1.heap.size, fun b => w1.heap.size ≤ b ∧ b < w2.heap.size, (Dk.tight d1).ext e2 (fun _ _ h => h), Rk.tight d2, fun b hb => ⟨hb.1, by omega, fun h => h⟩, fun b hb => ⟨by omega, hb.2, fun h => h⟩, fun b hb hc => by omega, fun b hb => hb.elim⟩
  have hok0 : Ok (m + 1) 0 (new (m + 1)) := by
    have := onD_ok (S := List.replicate (m + 1) zs)
    rw [List.length_replicate] at this
    exact this
  refine LoopW.nat ln (fun i x w' => x = ((i : Int), ()) ∧ After w p q (m + 1) (100 * i) w') ⟨rfl, ⟨_, hB, hok0, e1.tr e2⟩⟩ ?_
  rintro i x w3 next hi ⟨rfl, s, h3, hok, e3⟩ hnext
  dsimp only
  by_cases hlt : i < ln
  case neg =>
    rw [decide_eq_false (by omega), br_false]
    unfold W.law35_HibernateDiskAgrees_k35
    exact awake_fin e3 hQ
  rw [decide_eq_true (by omega), br_true]
  obtain ⟨ap, rfl⟩ := hC.r.some_ (by rw [flat_length dcC_len]; omega)
  have hi' : i < cs.length := by omega
  obtain ⟨hrs, hkl⟩ := hC.ok cs[i] (List.getElem_mem hi')
  refine ixs i 6 100 hlt ?_
  refine rdG i hi' (hC.r.ext e3 (fun _ _ _ h => h)) dcC_len (by omega) (fg ?_)
  refine al_st 6 (dcC_len _) (dcC_one _) fun cb w4 hcb a4 e4 z4 => ?_
  simp only [add_mk, Nat.zero_add]
  refine ldL a4 rfl ?_
  have e04 := e3.tr e4
  refine large_c (hrs.ext e04) fun b _ => fb ?_
  refine br_of (fun _ => awake_fin e04 hQ) fun _ => ?_
  refine al_i fun xb w5 hxb a5 e5 z5 => ?_
  rw [zimg] at a5
  refine al_i fun yb w6 hyb a6 e6 z6 => ?_
  rw [zimg] at a6
  have c6 := (a4.ext e5 (fun h => h)).ext e6 (fun h => h)
  refine ldI c6 rfl ?_
  obtain ⟨y, hy⟩ := u8_of (x := Int.tmod ((cs[i].board.toNat : Nat) : Int) 2) (by rw [show Int.tmod ((cs[i].board.toNat : Nat) : Int) 2 = ((cs[i].board.toNat % 2 : Nat) : Int) from rfl]; omega) (by rw [show Int.tmod ((cs[i].board.toNat : Nat) : Int) 2 = ((cs[i].board.toNat % 2 : Nat) : Int) from rfl]; omega)
  rw [hy]
  have hbd := bdN_len y
  refine al_st (vs := by_ (bdN y)) 32 (by rw [by_length, hbd]) (by_one _) fun vb w7 hvb a7 e7 z7 => ?_
  have c7 := c6.ext e7 (fun h => h)
  have x7 := (a5.ext e6 (fun h => h)).ext e7 (fun h => h)
  have y7 := a6.ext e7 (fun h => h)
  refine ldI c7 rfl ?_
  refine mod_c (by omega) (by omega) (fi ?_)
  have e37 := ((e4.tr e5).tr e6).tr e7
  have e07 := e3.tr e37
  have hz3 := e3.size
  have lc7 := c7.lt
  have lx7 := x7.lt
  have ly7 := y7.lt
  have lv7 := a7.lt
  have h7 : Bth w p q (fun b => w3.heap.size ≤ b ∧ b < w7.heap.size) w7 s s := h3.grow e37 fun b hb => ⟨.inr hb.1, hb.2⟩
  have go : ∀ (kd : Int) (b0 : Bool), W.law35_HibernateDiskAgrees_k21 (some ap) ln lc (some ⟨p, 0, none⟩) (some ⟨q, 0, none⟩) (i : Int) ⟨cb, 0, none⟩ 0 0 ⟨xb, 0, none⟩ ⟨yb, 0, none⟩ ⟨vb, 0, none⟩ kd b0 next w7 Q := by
    intro kd b0
    refine disk_k21 h7 hok (by omega) (by omega) (by omega) hbd c7 ⟨by omega, lc7⟩ a7 ⟨by omega, lv7⟩ x7 ⟨by omega, lx7⟩ y7 ⟨by omega, ly7⟩ (by omega) (by omega) (by omega) (by omega) hrs hkl (by omega) e07 fun w' ha => ?_
    exact hnext hlt _ _ ⟨rfl, by rw [show 100 * (i + 1) = 100 * i + 100 by omega]; exact ha⟩
  exact br_of (fun _ => go _ _) fun _ => go _ _
end
end Go.Proofs.Ytpinpccamfhofaa.Hi
