/-
  Wake sources: the helpers of the statements: the remainder, a call's arguments, a call, the example. Conditions: as each theorem states them.
-/
import Derived.Test.YtdfjakdgclbleaaWkP
namespace Go.Proofs.Ytdfjakdgclbleaa.Wk
open Go Go.Ev Go.Proofs

def modv (v n : Int) : Int := (v % 18446744073709551616) % n
theorem modv_bd {v n : Int} (h : 0 < n) : 0 ≤ modv v n ∧ modv v n < n := ⟨Int.emod_nonneg _ (by omega), Int.emod_lt_of_pos _ h⟩

section
variable {w : World} {b : Nat} {Q : Value → World → Prop}

theorem mod_c {v n : Int} (h0 : 0 < n) (h1 : n ≤ 9223372036854775807) (hQ : Q (.int .i64 (modv v n)) w) : CallE Try.prog 13 #[.int .i64 v, .int .i64 n] w Q := by
  apply C.help_Mod
  unfold W.help_Mod
  rw [wrap_u64 (x := n) (by omega) (by omega), wrap_u64']
  refine rem_i (by omega) ?_
  rw [fI_int]
  have hb := modv_bd (v := v) h0
  have : (v % 18446744073709551616).tmod n = modv v n := Int.tmod_eq_emod_of_nonneg (by omega)
  rw [this, wrap_i64 (by omega) (by omega)]
  exact hQ

structure Cl where
  kind : Int
  src : Int
  wait : Int
  hold : Int
  ev : Int
  raw : Bool
def Cl.cells (c : Cl) : List Value := [.int .i64 c.kind, .int .i64 c.src, .int .u64 c.wait, .int .u64 c.hold, .int .i64 c.ev, .bool c.raw]
def Cl.fine (c : Cl) : Prop := 0 ≤ c.wait ∧ 0 ≤ c.hold

structure Ar where
  source : Int
  now : Int
  other : Int
  events : Int
def Ar.cells (a : Ar) : List Value := [.int .i64 a.source, .int .u64 a.now, .int .u64 a.other, .int .i64 a.events]

def atC (c : Cl) (n now ev : Int) : Ar :=
  if c.raw then ⟨c.src, c.wait, c.hold, c.ev⟩ else
    ⟨if n > 0 then modv c.src n else 0, IntKind.wrap .u64 (now + Int.tmod c.wait 10),
     if modv c.kind 9 = 5 then IntKind.wrap .u64 (IntKind.wrap .u64 (now + Int.tmod c.wait 10) + Int.tmod c.hold 12) else Int.tmod c.hold 12,
     if Int.tmod c.ev 5 = 0 then c.ev else ev⟩

theorem cells_one4 (a : Ar) : ∀ v ∈ a.cells, one v = true := by
  intro v hv; simp only [Ar.cells, List.mem_cons, List.not_mem_nil, or_false] at hv; rcases hv with rfl | rfl | rfl | rfl <;> rfl
theorem cells_one6 (a : Cl) : ∀ v ∈ a.cells, one v = true := by
  intro v hv; simp only [Cl.cells, List.mem_cons, List.not_mem_nil, or_false] at hv; rcases hv with rfl | rfl | rfl | rfl | rfl | rfl <;> rfl

theorem at_k8_c {c : Cl} {a : Ar} {ev : Int} {b4 b8 b9 : Nat} {zs : List Value} {T4 T8 T9 : TypeId} (h4 : At w b4 c.cells T4) (h8 : At w b8 zs T8) (hz : zs.length = 4) (h9 : At w b9 { a with events := ev }.cells T9) (hne : b8 ≠ b9)
    (hQ : ∀ w', Ext w w' (fun b => b = b8 ∨ b = b9) → Q (.agg { a with events := if Int.tmod c.ev 5 = 0 then c.ev else ev }.cells.toArray) w') :
    W.law29_Call_at_k8 ⟨b4, 0, none⟩ ⟨b8, 0, none⟩ ⟨b9, 0, none⟩ w Q := by
  unfold W.law29_Call_at_k8
  simp only [add_mk, Nat.zero_add]
  refine ld_i h4 rfl ?_
  rw [fI_int]
  by_cases he : Int.tmod c.ev 5 = 0
  · rw [show (Int.tmod c.ev 5 == 0) = true by simpa using he, br_true]
    rw [if_pos he] at hQ
    refine ld_i h4 rfl ?_
    rw [fI_int]
    refine st_i h9 (by simp [Ar.cells]) fun w1 a1 e1 z1 => ?_
    change At w1 b9 { a with events := c.ev }.cells T9 at a1
    refine ld_w a1 ?_
    rw [fG_agg]
    refine st_w 4 (h8.ext e1 hne) hz rfl (cells_one4 _) fun w2 a2 e2 z2 => ?_
    refine ld_w a2 ?_
    rw [fG_agg]
    exact hQ w2 (e1.trans e2 (fun _ _ h => .inr h) (fun _ _ h => .inl h))
  · rw [show (Int.tmod c.ev 5 == 0) = false by simpa using he, br_false]
    rw [if_neg he] at hQ
    refine ld_w h9 ?_
    rw [fG_agg]
    refine st_w 4 h8 hz rfl (cells_one4 _) fun w2 a2 e2 z2 => ?_
    refine ld_w a2 ?_
    rw [fG_agg]
    exact hQ w2 (e2.mono (fun _ _ h => .inl h))

theorem at_k6_c {c : Cl} {a : Ar} {b4 b8 b9 : Nat} {zs : List Value} {T4 T8 T9 : TypeId} (h4 : At w b4 c.cells T4) (h8 : At w b8 zs T8) (hz : zs.length = 4) (h9 : At w b9 a.cells T9) (hne : b8 ≠ b9) (hne4 : b4 ≠ b9)
    (hQ : ∀ w', Ext w w' (fun b => b = b8 ∨ b = b9) → Q (.agg { a with other := if modv c.kind 9 = 5 then IntKind.wrap .u64 (a.now + Int.tmod c.hold 12) else a.other, events := if Int.tmod c.ev 5 = 0 then c.ev else a.events }.cells.toArray) w') :
    W.law29_Call_at_k6 ⟨b4, 0, none⟩ ⟨b8, 0, none⟩ ⟨b9, 0, none⟩ w Q := by
  unfold W.law29_Call_at_k6
  simp only [add_mk, Nat.zero_add]
  refine ld_i h4 rfl ?_
  rw [fI_int]
  refine mod_c (by omega) (by omega) ?_
  rw [fI_int]
  by_cases he : modv c.kind 9 = 5
  · rw [show (modv c.kind 9 == 5) = true by simpa using he, br_true]
    rw [if_pos he] at hQ
    refine ld_i h9 rfl ?_
    rw [fI_int]
    refine ld_i h4 rfl ?_
    rw [fI_int]
    refine st_i h9 (by simp [Ar.cells]) fun w1 a1 e1 z1 => ?_
    refine at_k8_c (a := { a with other := IntKind.wrap .u64 (a.now + Int.tmod c.hold 12) }) (ev := a.events) (h4.ext e1 hne4) (h8.ext e1 hne) hz a1 hne fun w2 e2 => ?_
    exact hQ w2 (e1.trans e2 (fun _ _ h => .inr h) (fun _ _ h => h))
  · rw [show (modv c.kind 9 == 5) = false by simpa using he, br_false]
    rw [if_neg he] at hQ
    exact at_k8_c (a := a) (ev := a.events) h4 h8 hz h9 hne hQ

theorem at_c {c : Cl} {n now ev : Int} (hn : n ≤ 9223372036854775807) (hQ : ∀ w', Ext w w' (fun _ => False) → Q (.agg (atC c n now ev).cells.toArray) w') :
    CallE Try.prog 14 #[.agg c.cells.toArray, .int .i64 n, .int .u64 now, .int .i64 ev] w Q := by
  apply C.law29_Call_at
  unfold W.law29_Call_at
  refine al_i fun b1 w1 hb1 a1 e1 z1 => ?_
  refine al_n 4 fun b2 w2 zs hb2 hzs a2 e2 z2 => ?_
  have c2 := a1.ext e2 (fun h => h)
  change At w2 b1 c.cells _ at c2
  simp only [add_mk, Nat.zero_add]
  refine ld_i c2 rfl ?_
  rw [fB_bool]
  unfold atC at hQ
  cases hr : c.raw with
  | true =>
    rw [hr, if_pos rfl] at hQ
    rw [br_true]
    refine ld_i c2 rfl ?_
    rw [fI_int]
    refine ld_i c2 rfl ?_
    rw [fI_int]
    refine ld_i c2 rfl ?_
    rw [fI_int]
    refine ld_i c2 rfl ?_
    rw [fI_int]
    refine st_w (vs := (⟨c.src, c.wait, c.hold, c.ev⟩ : Ar).cells) 4 a2 hzs rfl (cells_one4 _) fun w3 a3 e3 z3 => ?_
    refine ld_w a3 ?_
    rw [fG_agg]
    exact hQ w3 ((e1.tr e2).trans e3 (fun _ _ h => h) (fun b' hb' h => by omega))
  | false =>
    rw [hr, if_neg (by simp)] at hQ
    rw [br_false]
    refine ld_i c2 rfl ?_
    rw [fI_int]
    refine ld_i c2 rfl ?_
    rw [fI_int]
    refine al_st (vs := (⟨0, IntKind.wrap .u64 (now + Int.tmod c.wait 10), Int.tmod c.hold 12, ev⟩ : Ar).cells) 4 rfl (cells_one4 _) ?_
    intro b3 w3 hb3 a3 e3 z3
    have c3 := c2.ext e3 (fun h => h)
    have d3 := a2.ext e3 (fun h => h)
    have e03 : Ext w w3 (fun _ => False) := (e1.tr e2).tr e3
    have e1s := e1.size
    by_cases hp : n > 0
    · rw [decide_eq_true hp, br_true]
      simp only [add_mk, Nat.zero_add]
      refine ld_i c3 rfl ?_
      rw [fI_int]
      refine mod_c hp hn ?_
      rw [fI_int]
      refine st_i a3 (by simp [Ar.cells]) fun w4 a4 e4 z4 => ?_
      change At w4 b3 (⟨modv c.src n, IntKind.wrap .u64 (now + Int.tmod c.wait 10), Int.tmod c.hold 12, ev⟩ : Ar).cells _ at a4
      refine at_k6_c (c3.ext e4 (by omega)) (d3.ext e4 (by omega)) hzs a4 (by omega) (by omega) fun w5 e5 => ?_
      rw [if_pos hp] at hQ
      exact hQ w5 ((e03.trans e4 (fun _ _ h => h) (fun b' hb' h => by omega)).trans e5 (fun _ _ h => h) (fun b' hb' h => by omega))
    · rw [decide_eq_false hp, br_false]
      refine at_k6_c c3 d3 hzs a3 (by omega) (by omega) fun w5 e5 => ?_
      rw [if_neg hp] at hQ
      exact hQ w5 (e03.trans e5 (fun _ _ h => h) (fun b' hb' h => by omega))

def doSt (s : St) (k : Int) (a : Ar) : Int × St :=
  if k = 0 ∨ k = 1 then activate s a.source a.now
  else if k = 2 then deactivate s a.source a.now
  else if k = 3 ∨ k = 4 then pulse s a.source a.now a.other
  else if k = 5 then setAlarm s a.now a.other
  else if k = 6 then advance s a.now
  else if k = 7 then arm s a.events a.now
  else (0, disarm s)

theorem do_k9_c {s : St} {a : Ar} {k : Int} {f : Bool} {c : Nat} {T : TypeId} (h : Prog w b s) (hc : At w c a.cells T) (hs : Small s) (h0 : 0 ≤ a.now) (h1 : 0 ≤ a.other)
    (hk : ¬ (k = 0 ∨ k = 1) ∧ k ≠ 2) (hf : f = decide (k = 3 ∨ k = 4)) (hQ : ∀ w', Prog w' b (doSt s k a).2 → Ext w w' (· = b) → Q (.int .i64 (doSt s k a).1) w') :
    W.law29_do_k9 ⟨b, 0, none⟩ ⟨c, 0, none⟩ k f w Q := by
  unfold W.law29_do_k9
  unfold doSt at hQ
  rw [if_neg hk.1, if_neg hk.2] at hQ
  simp only [add_mk, Nat.zero_add]
  by_cases h34 : k = 3 ∨ k = 4
  · rw [decide_eq_true h34] at hf
    subst hf
    rw [if_pos h34] at hQ
    rw [br_true]
    refine ld_i hc rfl ?_
    rw [fI_int]
    refine ld_i hc rfl ?_
    rw [fI_int]
    refine ld_i hc rfl ?_
    rw [fI_int]
    refine pulse_c h hs h0 h1 fun w1 p1 e1 => ?_
    rw [fI_int]
    exact hQ w1 p1 e1
  · rw [decide_eq_false h34] at hf
    subst hf
    rw [if_neg h34] at hQ
    rw [br_false]
    by_cases h5 : k = 5
    · rw [show (k == 5) = true by simpa using h5, br_true]
      rw [if_pos h5] at hQ
      refine ld_i hc rfl ?_
      rw [fI_int]
      refine ld_i hc rfl ?_
      rw [fI_int]
      refine setAlarm_c h hs fun w1 p1 e1 => ?_
      rw [fI_int]
      exact hQ w1 p1 e1
    rw [show (k == 5) = false by simpa using h5, br_false]
    rw [if_neg h5] at hQ
    by_cases h6 : k = 6
    · rw [show (k == 6) = true by simpa using h6, br_true]
      rw [if_pos h6] at hQ
      refine ld_i hc rfl ?_
      rw [fI_int]
      refine advance'_c h hs fun w1 p1 e1 => ?_
      rw [fI_int]
      exact hQ w1 p1 e1
    rw [show (k == 6) = false by simpa using h6, br_false]
    rw [if_neg h6] at hQ
    by_cases h7 : k = 7
    · rw [show (k == 7) = true by simpa using h7, br_true]
      rw [if_pos h7] at hQ
      refine ld_i hc rfl ?_
      rw [fI_int]
      refine ld_i hc rfl ?_
      rw [fI_int]
      refine arm_c h hs fun w1 p1 e1 => ?_
      rw [fI_int]
      exact hQ w1 p1 e1
    rw [show (k == 7) = false by simpa using h7, br_false]
    rw [if_neg h7] at hQ
    refine disarm_c h fun w1 p1 e1 => ⟨rfl, ?_⟩
    exact hQ w1 p1 e1

theorem do_c {s : St} {a : Ar} {kind : Int} (h : Prog w b s) (hs : Small s) (h0 : 0 ≤ a.now) (h1 : 0 ≤ a.other)
    (hQ : ∀ w', Prog w' b (doSt s (modv kind 9) a).2 → Ext w w' (· = b) → Q (.int .i64 (doSt s (modv kind 9) a).1) w') :
    CallE Try.prog 15 #[.pointer (some ⟨b, 0, none⟩), .int .i64 kind, .agg a.cells.toArray] w Q := by
  apply C.law29_do
  unfold W.law29_do
  refine al_i fun c w1 hc a1 e1 z1 => ?_
  refine mod_c (by omega) (by omega) ?_
  rw [fI_int]
  have hb := h.1.lt
  have p1 : Prog w1 b s := h.ext e1 (fun h => h)
  have e1' : Ext w w1 (· = b) := e1.of0
  have hQ' : ∀ w', Prog w' b (doSt s (modv kind 9) a).2 → Ext w1 w' (· = b) → Q (.int .i64 (doSt s (modv kind 9) a).1) w' := fun w' p e => hQ w' p (e1'.tr e)
  clear hQ
  generalize modv kind 9 = k at *
  have key : ∀ f : Bool, f = decide (k = 0 ∨ k = 1) → W.law29_do_k4 ⟨b, 0, none⟩ ⟨c, 0, none⟩ k f w1 Q := by
    intro f hf
    unfold W.law29_do_k4
    simp only [add_mk, Nat.zero_add]
    by_cases h01 : k = 0 ∨ k = 1
    · rw [decide_eq_true h01] at hf
      subst hf
      unfold doSt at hQ'
      rw [if_pos h01] at hQ'
      rw [br_true]
      refine ld_i a1 rfl ?_
      rw [fI_int]
      refine ld_i a1 rfl ?_
      rw [fI_int]
      refine activate_c p1 hs fun w2 p2 e2 => ?_
      rw [fI_int]
      exact hQ' w2 p2 e2
    · rw [decide_eq_false h01] at hf
      subst hf
      rw [br_false]
      by_cases h2 : k = 2
      · unfold doSt at hQ'
        rw [if_neg h01, if_pos h2] at hQ'
        rw [show (k == 2) = true by simpa using h2, br_true]
        refine ld_i a1 rfl ?_
        rw [fI_int]
        refine ld_i a1 rfl ?_
        rw [fI_int]
        refine deactivate_c p1 hs fun w2 p2 e2 => ?_
        rw [fI_int]
        exact hQ' w2 p2 e2
      rw [show (k == 2) = false by simpa using h2, br_false]
      refine br_of (fun h3 => ?_) (fun h3 => ?_)
      · exact do_k9_c p1 a1 hs h0 h1 ⟨h01, h2⟩ (by simp at h3; simp [h3]) hQ'
      · exact do_k9_c p1 a1 hs h0 h1 ⟨h01, h2⟩ (by simp at h3; rw [Bool.eq_iff_iff]; simp; omega) hQ'
  refine br_of (fun h3 => ?_) (fun h3 => ?_)
  · exact key true (by simp at h3; simp [h3])
  · exact key _ (by simp at h3; rw [Bool.eq_iff_iff]; simp; omega)

theorem awake_c (hQ : ∀ w', Ext w w' (fun _ => False) → Q (.bool true) w') : CallE Try.prog 10 #[] w Q := by
  apply C.law29_awake
  unfold W.law29_awake
  refine new_c (by omega) (by omega) fun b w1 hb p1 e1 => ⟨_, _, rfl, ?_⟩
  rw [show ((0 : Int) != 0) = false from rfl, br_false]
  refine eq_nil ?_
  rw [fB_bool, Option.isNone_some, br_false]
  have lift : ∀ {w2 w3 : World}, Ext w w2 (fun _ => False) → Ext w2 w3 (· = b) → Ext w w3 (fun _ => False) := fun e e' => e.trans e' (fun _ _ h => h) (fun b' hb' h => by omega)
  refine pulse_c p1 ⟨by decide, by decide⟩ (by omega) (by omega) fun w2 p2 e2 => ?_
  rw [fI_int, show (pulse (new (2 : Int).toNat) 0 10 5).1 = 0 by decide, show ((0 : Int) != 0) = false from rfl, br_false]
  rw [show (pulse (new (2 : Int).toNat) 0 10 5).2 = ⟨[some (some 15), none], none, 0, none, 10⟩ by rfl] at p2
  have f2 := lift e1 e2
  refine counts_c p2 fun w3 e3 => ⟨_, _, rfl, ?_⟩
  have p3 := p2.ext e3 (fun h => h)
  have f3 := f2.tr e3
  refine arm_c p3 ⟨by decide, by decide⟩ fun w4 p4 e4 => ?_
  rw [fI_int]
  have f4 := lift f3 e4
  rw [show arm ⟨[some (some 15), none], none, 0, none, 10⟩ 0 12 = (17, ⟨[some (some 15), none], none, 0, none, 10⟩) by rfl] at p4 ⊢
  refine advance'_c p4 ⟨by decide, by decide⟩ fun w5 p5 e5 => ?_
  rw [fI_int]
  have f5 := lift f4 e5
  rw [show advance ⟨[some (some 15), none], none, 0, none, 10⟩ 15 = (0, ⟨[none, none], none, 1, none, 15⟩) by rfl] at p5 ⊢
  refine counts_c p5 fun w6 e6 => ⟨_, _, rfl, ?_⟩
  have p6 := p5.ext e6 (fun h => h)
  have f6 := f5.tr e6
  refine arm_c p6 ⟨by decide, by decide⟩ fun w7 p7 e7 => ?_
  rw [fI_int]
  have f7 := lift f6 e7
  rw [show arm ⟨[none, none], none, 1, none, 15⟩ 1 16 = (0, ⟨[none, none], none, 1, some 1, 16⟩) by rfl] at p7 ⊢
  refine activate_c p7 ⟨by decide, by decide⟩ fun w8 p8 e8 => ?_
  rw [fI_int]
  have f8 := lift f7 e8
  rw [show activate ⟨[none, none], none, 1, some 1, 16⟩ 1 17 = (0, ⟨[none, some none], none, 1, some 1, 17⟩) by rfl] at p8 ⊢
  refine mustAbort_c p8 fun w9 e9 => ?_
  rw [fB_bool]
  exact hQ w9 (f8.tr e9)
end
end Go.Proofs.Ytdfjakdgclbleaa.Wk
