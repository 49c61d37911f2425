/-
  A block device: a call of a sequence, the example. No condition beyond those stated.
-/
import Derived.Test.YtgnmbenhpjkbfaaBdL
namespace Go.Proofs.Ytgnmbenhpjkbfaa.Bd
open Go Go.Ev Go.Proofs Go.ChangeShapes Go.WideShapes Go.ChangeAt Go.RowKit

/-- What a call does. -/
def atS (c : Cl) (n : Int) : Int := if c.raw then c.sect else modv c.sect n
def doS (s : St) (c : Cl) (n : Int) : St × Sec × Int :=
  if modv c.kind 10 < 4 then ((wr s (atS c n) (sec c.data)).1, [], (wr s (atS c n) (sec c.data)).2)
  else if modv c.kind 10 = 4 then (s, (rd s (atS c n)).1, (rd s (atS c n)).2)
  else if modv c.kind 10 = 5 then ((fl s).1, [], (fl s).2)
  else if modv c.kind 10 = 6 then (cut s (modv c.data 6 - 1) c.kl, [], 0)
  else if modv c.kind 10 = 7 then ((pOff s c.kl).1, [], (pOff s c.kl).2)
  else ((pOn s).1, [], (pOn s).2)
theorem Ok.doS {n m : Nat} {s : St} (h : Ok n m s) (c : Cl) (k : Int) : Ok n (m + 1) (doS s c k).1 := by
  unfold Bd.doS
  split
  · exact h.wr _ _
  split
  · exact h.le (by omega)
  split
  · exact h.fl.le (by omega)
  split
  · exact (h.cut (by have := modv_bd (v := c.data) (n := 6) (by omega); omega) _).le (by omega)
  split
  · exact (h.pOff _).le (by omega)
  · exact h.pOn.le (by omega)

section
variable {w : World} {Q : Value → World → Prop} {p : Nat} {s : St} {F : Nat → Prop}

theorem do_c {c : Cl} {n : Int} {m : Nat} (h : Dk w p s F) (hF : ∀ b, F b → b < w.heap.size) (hok : Ok m 1000000 s) (hn : 0 < n) (hn' : n ≤ 100) (hk : KOk w c.ka c.kn c.kl) (hkF : ∀ q : Addr, c.ka = some q → c.kl ≠ [] → ¬ F q.block)
    (hQ : ∀ w' F', Dk w' p (doS s c n).1 F' → Ext w w' F → (∀ b, F' b → F b ∨ w.heap.size ≤ b) → Q (.tuple #[.string (mkS (doS s c n).2.1), .int .i64 (doS s c n).2.2]) w') :
    CallE Try.prog 24 #[.pointer (some ⟨p, 0, none⟩), .agg #[.int .i64 c.kind, .int .i64 c.sect, .int .i64 c.data, .slice c.ka c.kn c.kc, .bool c.raw], .int .i64 n] w Q := by
  apply C.law32_do
  unfold W.law32_do
  refine al_i fun xb w1 hxb a1 e1 z1 => ?_
  simp only [add_mk, Nat.zero_add]
  refine ldI a1 rfl ?_
  refine mod_c hn (by omega) (fi ?_)
  refine ldB a1 rfl ?_
  have h1 := h.ext e1 (fun _ _ h => h)
  have key : W.law32_do_k4 ⟨p, 0, none⟩ ⟨xb, 0, none⟩ (atS c n) w1 Q := by
    unfold W.law32_do_k4
    simp only [add_mk, Nat.zero_add]
    refine ldI a1 rfl ?_
    refine mod_c (by omega) (by omega) (fi ?_)
    have hm := modv_bd (v := c.kind) (n := 10) (by omega)
    unfold doS at hQ
    generalize modv c.kind 10 = k at *
    have wcase : k < 4 → W.law32_do_k10 ⟨p, 0, none⟩ ⟨xb, 0, none⟩ (atS c n) k true w1 Q := by
      intro hk4
      rw [if_pos hk4] at hQ
      unfold W.law32_do_k10
      simp only [add_mk, Nat.zero_add]
      rw [br_true]
      refine ldI a1 rfl ?_
      refine sector_c fun w2 e2 => ft ?_
      refine write_c (h1.ext e2 (fun _ _ h => h)) hok fun w3 F3 h3 e3 hF3 => fi ?_
      refine hQ w3 F3 h3 (((e1.tr e2).of0 (X := F)).tr e3) (fun b hb => ?_)
      rcases hF3 b hb with hx | hx
      · exact .inl hx
      · right; have := (e1.tr e2).size; omega
    refine br_of (fun h0 => wcase ?_) (fun h0 => ?_)
    · rw [beq_iff_eq] at h0; omega
    rw [beq_eq_false_iff_ne] at h0
    refine br_of (fun h1 => wcase ?_) (fun h1' => ?_)
    · rw [beq_iff_eq] at h1; omega
    rw [beq_eq_false_iff_ne] at h1'
    refine br_of (fun h1 => wcase ?_) (fun h2' => ?_)
    · rw [beq_iff_eq] at h1; omega
    rw [beq_eq_false_iff_ne] at h2'
    by_cases hk3 : k = 3
    · rw [show (k == 3) = true by rw [beq_iff_eq]; omega]
      exact wcase (by omega)
    rw [show (k == 3) = false by rw [beq_eq_false_iff_ne]; exact hk3]
    rw [if_neg (by omega)] at hQ
    unfold W.law32_do_k10
    simp only [add_mk, Nat.zero_add]
    rw [br_false]
    refine br_of (fun hk4 => ?_) (fun hk4 => ?_)
    · rw [beq_iff_eq] at hk4
      rw [if_pos hk4] at hQ
      refine read_c h1 ⟨_, _, rfl, ?_⟩
      exact hQ w1 F h1 e1.of0 (fun b hb => .inl hb)
    rw [beq_eq_false_iff_ne] at hk4
    rw [if_neg hk4] at hQ
    refine br_of (fun hk5 => ?_) (fun hk5 => ?_)
    · rw [beq_iff_eq] at hk5
      rw [if_pos hk5] at hQ
      refine flush_c h1 hok fun w2 h2 e2 => fi ?_
      exact hQ w2 F h2 (e1.of0.tr e2) (fun b hb => .inl hb)
    rw [beq_eq_false_iff_ne] at hk5
    rw [if_neg hk5] at hQ
    refine br_of (fun hk6 => ?_) (fun hk6 => ?_)
    · rw [beq_iff_eq] at hk6
      rw [if_pos hk6] at hQ
      refine ⟨fun w' => At w' xb [.int .i64 c.kind, .int .i64 c.sect, .int .i64 c.data, .slice c.ka c.kn c.kc, .bool c.raw] 37, a1, ?_⟩
      refine ldS_i (fun w h => h) rfl (fi ?_)
      refine ldS_i (fun w h => h) rfl (fs ?_)
      refine mod_c (by omega) (by omega) (fi ⟨a1, ?_⟩)
      have hm6 := modv_bd (v := c.data) (n := 6) (by omega)
      rw [wrap_i64 (by omega) (by omega)]
      refine cutAfter_c (w := drew w1) (h1.ext (Ext.refl w1 _).drew_ (fun _ _ h => h)) ((hk.ext e1).ext (Ext.refl w1 _).drew_).r hk.n hk.le hkF fun w2 F2 h2 e2 hF2 => ⟨rfl, ?_⟩
      refine ⟨At.ext (w := drew w1) a1 e2 (fun hx => by have := hF _ hx; omega), ?_⟩
      refine hQ w2 F2 h2 (e1.of0.tr e2.of_drew) (fun b hb => ?_)
      rcases hF2 b hb with hx | hx
      · exact .inl hx
      · right
        have h3 : w1.heap.size ≤ b := hx
        omega
    rw [beq_eq_false_iff_ne] at hk6
    rw [if_neg hk6] at hQ
    refine br_of (fun hk7 => ?_) (fun hk7 => ?_)
    · rw [beq_iff_eq] at hk7
      rw [if_pos hk7] at hQ
      refine ldL a1 rfl ?_
      refine powerOff_c h1 hok (hk.ext e1).r hk.n hkF fun w2 h2 e2 => fi ?_
      exact hQ w2 F h2 (e1.of0.tr e2) (fun b hb => .inl hb)
    rw [beq_eq_false_iff_ne] at hk7
    rw [if_neg hk7] at hQ
    refine powerOn_c h1 fun w2 h2 e2 => fi ?_
    exact hQ w2 F h2 (e1.of0.tr e2) (fun b hb => .inl hb)
  unfold atS at key
  refine br_of (fun hr => ?_) (fun hr => ?_)
  · rw [if_pos hr] at key
    refine ldI a1 rfl ?_
    exact key
  · rw [if_neg (by simp [hr])] at key
    exact key

theorem want_c {c : Cl} {n : Int} {m : Nat} (h : Rk w p s F) (hF : ∀ b, F b → b < w.heap.size) (hok : Ok m 1000000 s) (hn : 0 < n) (hn' : n ≤ 100) (hk : KOk w c.ka c.kn c.kl) (hkF : ∀ q : Addr, c.ka = some q → c.kl ≠ [] → ¬ F q.block)
    (hQ : ∀ w' F', Rk w' p (doS s c n).1 F' → Ext w w' F → (∀ b, F' b → F b ∨ w.heap.size ≤ b) → Q (.tuple #[.string (mkS (doS s c n).2.1), .int .i64 (doS s c n).2.2]) w') :
    CallE Try.prog 25 #[.pointer (some ⟨p, 0, none⟩), .agg #[.int .i64 c.kind, .int .i64 c.sect, .int .i64 c.data, .slice c.ka c.kn c.kc, .bool c.raw], .int .i64 n] w Q := by
  apply C.law32_want
  unfold W.law32_want
  refine al_i fun xb w1 hxb a1 e1 z1 => ?_
  simp only [add_mk, Nat.zero_add]
  refine ldI a1 rfl ?_
  refine mod_c hn (by omega) (fi ?_)
  refine ldB a1 rfl ?_
  have h1 := h.ext e1 (fun _ _ h => h)
  have key : W.law32_want_k4 ⟨p, 0, none⟩ ⟨xb, 0, none⟩ (atS c n) w1 Q := by
    unfold W.law32_want_k4
    simp only [add_mk, Nat.zero_add]
    refine ldI a1 rfl ?_
    refine mod_c (by omega) (by omega) (fi ?_)
    have hm := modv_bd (v := c.kind) (n := 10) (by omega)
    unfold doS at hQ
    generalize modv c.kind 10 = k at *
    have wcase : k < 4 → W.law32_want_k10 ⟨p, 0, none⟩ ⟨xb, 0, none⟩ (atS c n) k true w1 Q := by
      intro hk4
      rw [if_pos hk4] at hQ
      unfold W.law32_want_k10
      simp only [add_mk, Nat.zero_add]
      rw [br_true]
      refine ldI a1 rfl ?_
      refine sector_c fun w2 e2 => ft ?_
      refine rwrite_c (h1.ext e2 (fun _ _ h => h)) hok fun w3 F3 h3 e3 hF3 => fi ?_
      refine hQ w3 F3 h3 (((e1.tr e2).of0 (X := F)).tr e3) (fun b hb => ?_)
      rcases hF3 b hb with hx | hx
      · exact .inl hx
      · right; have := (e1.tr e2).size; omega
    refine br_of (fun h0 => wcase ?_) (fun h0 => ?_)
    · rw [beq_iff_eq] at h0; omega
    rw [beq_eq_false_iff_ne] at h0
    refine br_of (fun h1 => wcase ?_) (fun h1' => ?_)
    · rw [beq_iff_eq] at h1; omega
    rw [beq_eq_false_iff_ne] at h1'
    refine br_of (fun h1 => wcase ?_) (fun h2' => ?_)
    · rw [beq_iff_eq] at h1; omega
    rw [beq_eq_false_iff_ne] at h2'
    by_cases hk3 : k = 3
    · rw [show (k == 3) = true by rw [beq_iff_eq]; omega]
      exact wcase (by omega)
    rw [show (k == 3) = false by rw [beq_eq_false_iff_ne]; exact hk3]
    rw [if_neg (by omega)] at hQ
    unfold W.law32_want_k10
    simp only [add_mk, Nat.zero_add]
    rw [br_false]
    refine br_of (fun hk4 => ?_) (fun hk4 => ?_)
    · rw [beq_iff_eq] at hk4
      rw [if_pos hk4] at hQ
      refine rread_c h1 hok ⟨_, _, rfl, ?_⟩
      exact hQ w1 F h1 e1.of0 (fun b hb => .inl hb)
    rw [beq_eq_false_iff_ne] at hk4
    rw [if_neg hk4] at hQ
    refine br_of (fun hk5 => ?_) (fun hk5 => ?_)
    · rw [beq_iff_eq] at hk5
      rw [if_pos hk5] at hQ
      refine rflush_c h1 hok fun w2 h2 e2 => fi ?_
      exact hQ w2 F h2 (e1.of0.tr e2) (fun b hb => .inl hb)
    rw [beq_eq_false_iff_ne] at hk5
    rw [if_neg hk5] at hQ
    refine br_of (fun hk6 => ?_) (fun hk6 => ?_)
    · rw [beq_iff_eq] at hk6
      rw [if_pos hk6] at hQ
      refine ⟨fun w' => At w' xb [.int .i64 c.kind, .int .i64 c.sect, .int .i64 c.data, .slice c.ka c.kn c.kc, .bool c.raw] 37, a1, ?_⟩
      refine ldS_i (fun w h => h) rfl (fi ?_)
      refine ldS_i (fun w h => h) rfl (fs ?_)
      refine mod_c (by omega) (by omega) (fi ⟨a1, ?_⟩)
      have hm6 := modv_bd (v := c.data) (n := 6) (by omega)
      rw [wrap_i64 (by omega) (by omega)]
      refine rcutAfter_c (w := drew w1) (h1.ext (Ext.refl w1 _).drew_ (fun _ _ h => h)) ((hk.ext e1).ext (Ext.refl w1 _).drew_).r hk.n hk.le fun w2 F2 h2 e2 hF2 => ⟨rfl, ?_⟩
      refine ⟨At.ext (w := drew w1) a1 e2 (fun hx => by have := hF _ hx; omega), ?_⟩
      refine hQ w2 F2 h2 (e1.of0.tr e2.of_drew) (fun b hb => ?_)
      rcases hF2 b hb with hx | hx
      · exact .inl hx
      · right
        have h3 : w1.heap.size ≤ b := hx
        omega
    rw [beq_eq_false_iff_ne] at hk6
    rw [if_neg hk6] at hQ
    refine br_of (fun hk7 => ?_) (fun hk7 => ?_)
    · rw [beq_iff_eq] at hk7
      rw [if_pos hk7] at hQ
      refine ldL a1 rfl ?_
      refine rpowerOff_c h1 hok (hk.ext e1).r hk.n hkF fun w2 h2 e2 => fi ?_
      exact hQ w2 F h2 (e1.of0.tr e2) (fun b hb => .inl hb)
    rw [beq_eq_false_iff_ne] at hk7
    rw [if_neg hk7] at hQ
    refine rpowerOn_c h1 fun w2 h2 e2 => fi ?_
    exact hQ w2 F h2 (e1.of0.tr e2) (fun b hb => .inl hb)
  unfold atS at key
  refine br_of (fun hr => ?_) (fun hr => ?_)
  · rw [if_pos hr] at key
    refine ldI a1 rfl ?_
    exact key
  · rw [if_neg (by simp [hr])] at key
    exact key

theorem awake_c (hQ : ∀ w', Ext w w' (fun _ => False) → Q (.bool true) w') : CallE Try.prog 13 #[] w Q := by
  apply C.law32_awake
  unfold W.law32_awake
  refine new_c (n := 2) (by omega) (by omega) fun p w1 h1 e1 => ⟨_, _, rfl, ?_⟩
  have o1 := One.new h1 (Ext.refl w _) e1
  rw [show ((0 : Int) != 0) = false from rfl, br_false]
  refine eq_nil (fb ?_)
  rw [Option.isNone_some, br_false]
  have k1 := (ok_new 2).le (show 0 ≤ 1000000 by omega)
  refine sector_c fun w2 e2 => ft ?_
  refine write_c (o1.same e2).d k1 fun w3 F3 h3 e3 hF3 => fi ?_
  have o3 := (o1.same e2).step h3 e3 hF3
  have hs3 : wr (new 2) 0 (sec 1) = (⟨List.replicate 2 zs, [(0, sec 1)], false, none⟩, 0) := by
    unfold wr
    rw [if_neg (by rw [sec_length]; simp [new])]
    rfl
  rw [hs3] at o3 ⊢
  dsimp only at o3 ⊢
  rw [show ((0 : Int) != 0) = false from rfl, br_false]
  refine sector_c fun w4 e4 => ft ?_
  have k3 : Ok 2 1000000 ⟨List.replicate 2 zs, [(0, sec 1)], false, none⟩ := ⟨by simp, by simp, by simp, by simp⟩
  refine write_c (o3.same e4).d k3 fun w5 F5 h5 e5 hF5 => fi ?_
  have o5 := (o3.same e4).step h5 e5 hF5
  have hs5 : wr ⟨List.replicate 2 zs, [(0, sec 1)], false, none⟩ 0 (sec 2) = (⟨List.replicate 2 zs, [(0, sec 1), (0, sec 2)], false, none⟩, 0) := by
    unfold wr
    rw [if_neg (by rw [sec_length]; simp)]
    rfl
  rw [hs5] at o5 ⊢
  dsimp only at o5 ⊢
  rw [show ((0 : Int) != 0) = false from rfl, br_false]
  have k5 : Ok 2 1000000 ⟨List.replicate 2 zs, [(0, sec 1), (0, sec 2)], false, none⟩ := ⟨by simp, by simp, by simp, by simp⟩
  refine pending_c o5.d (fi ?_)
  rw [show ((([(0, sec 1), (0, sec 2)] : List (Nat × Sec)).length : Int) != 2) = false from rfl, br_false]
  refine al_i fun kb w6 hkb a6 e6 z6 => ?_
  have o6 := o5.same e6
  refine powerOff_c (kl := [true, false]) o6.d k5 (.inr ⟨_, rfl, fun j hj => by rw [add_mk, a6.cell, Nat.zero_add]; rfl⟩) rfl (fun q hq _ hF => by cases hq; have := (o5.f _ hF).2; simp at this; omega) fun w7 h7 e7 => fi ?_
  have o7 := o6.stay h7 e7
  have hs7 : pOff ⟨List.replicate 2 zs, [(0, sec 1), (0, sec 2)], false, none⟩ [true, false] = (⟨[sec 1, zs], [], true, none⟩, 0) := rfl
  rw [hs7] at o7 ⊢
  dsimp only at o7 ⊢
  rw [show ((0 : Int) != 0) = false from rfl, br_false]
  have k7 : Ok 2 1000000 ⟨[sec 1, zs], [], true, none⟩ := ⟨rfl, by simp, by simp, by simp⟩
  refine read_c o7.d ⟨_, _, rfl, ?_⟩
  rw [show rd ⟨[sec 1, zs], [], true, none⟩ 0 = ([], 16) from rfl]
  refine contents_c o7.d k7 (by omega) fun la lc w8 s8 hl8 e8 => fs ?_
  have o8 := o7.same e8
  refine powerOn_c o8.d fun w9 h9 e9 => fi ?_
  have o9 := o8.stay h9 e9
  rw [show pOn ⟨[sec 1, zs], [], true, none⟩ = (⟨[sec 1, zs], [], false, none⟩, 0) from rfl] at o9 ⊢
  dsimp only at o9 ⊢
  refine read_c o9.d ⟨_, _, rfl, ?_⟩
  rw [show rd ⟨[sec 1, zs], [], false, none⟩ 0 = (sec 1, 0) from rfl]
  dsimp only
  obtain ⟨lb, rfl⟩ := s8.one_block (by omega)
  have s9 : Sl w9 9 1 (some ⟨lb, 0, none⟩) 2 lc (strs [sec 1, zs]) := s8.ext e9 (fun b hb hF => by
    have h1 := hl8 b hb
    have h2 := (o7.f b hF).2
    omega)
  refine ⟨fun w' => Sl w' 9 1 (some ⟨lb, 0, none⟩) 2 lc (strs [sec 1, zs]), s9, ?_⟩
  rw [show ((16 : Int) == 16) = true from rfl, br_true, show ((0 : Int) == 0) = true from rfl, br_true, br_true]
  have lS : ∀ (i : Nat) (d : Sec) (S : World → Prop) (K : Value → Prop), S = (fun w' => Sl w' 9 1 (some ⟨lb, 0, none⟩) 2 lc (strs [sec 1, zs])) → [sec 1, zs][i]? = some d → K (.string (mkS d)) → ldS Try.prog S 9 ⟨lb, i, none⟩ K := by
    rintro i d S K rfl hd hK
    refine ⟨.string (mkS d), fun w' hw' => ?_, hK⟩
    obtain ⟨sp, ha, hl, _⟩ := Sl.at_ hw'
    refine run_loadVar (by kernel_rfl) ?_
    have hi : i < 2 := by
      rcases Nat.lt_or_ge i 2 with h | h
      · exact h
      · rw [List.getElem?_eq_none (by simpa using h)] at hd; cases hd
    rw [ha.cell, List.getElem?_append_left (by rw [hl]; omega), strs_get, hd]
    rfl
  refine sector_c fun w10 e10 => ft ⟨s9.ext e10.of_drew (fun _ _ h => h), ?_⟩
  refine qSB s_eq ?_
  rw [decide_eq_true rfl, br_true, show (((2 : Nat) : Int) == 2) = true from rfl, br_true]
  refine ixbS 0 1 9 (by omega) ?_
  refine lS _ (sec 1) _ _ rfl rfl (ft ?_)
  refine sector_c fun w11 e11 => ft ⟨(s9.ext e10.of_drew (fun _ _ h => h)).ext e11 (fun _ _ h => h), ?_⟩
  refine qSB s_eq ?_
  rw [decide_eq_true rfl, br_true]
  refine ixbS 1 1 9 (by omega) ?_
  refine lS _ zs _ _ rfl rfl (ft ?_)
  refine mkB (n := 64) 5 (by omega) fun zb w12 hzb a12 e12 z12 => ?_
  have s12 := ((s9.ext e10.of_drew (fun _ _ h => h)).ext e11 (fun _ _ h => h)).ext e12 (fun _ _ h => h)
  refine ⟨s12, ?_⟩
  refine bsT a12 List.length_replicate ⟨s12, ?_⟩
  refine qSB s_eq ?_
  rw [decide_eq_true (show zs = List.replicate 64 0 from rfl)]
  exact hQ w12 (((o9.e.tr e10.of_drew).tr e11).tr e12)
theorem awake_fin {U : World} (hQ : ∀ w', Ext U w' (fun _ => False) → Q (.bool true) w') (e : Ext U w (fun _ => False)) : CallE Try.prog 13 #[] w fun v w' => fB v fun b => Q (.bool b) w' :=
  awake_c fun w' e' => fb (hQ w' (e.tr e'))
end
end Go.Proofs.Ytgnmbenhpjkbfaa.Bd
