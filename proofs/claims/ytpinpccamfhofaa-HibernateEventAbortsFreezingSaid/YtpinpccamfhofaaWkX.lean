/-
  Wake sources: their plain form, and the program's methods that this seat has, over the code. No condition beyond those stated.
-/
import Derived.Test.YtpinpccamfhofaaGA
import Derived.Test.YtpinpccamfhofaaW1
set_option linter.unusedVariables false
set_option linter.unusedSimpArgs false
namespace Go.Proofs.Ytpinpccamfhofaa.Wk
open Go Go.Ev

/-- A source: inactive, active, active up to a time. -/
abbrev Src := Option (Option Int)

structure St where
  src : List Src
  alarm : Option Int
  events : Int
  armed : Option Int
  clock : Int

def MAX : Int := 1152921504606846976

def ends (t : Int) : Src → Bool
  | some (some h) => decide (h ≤ t)
  | _ => false
def stop (t : Int) (x : Src) : Src := if ends t x then none else x
def fires (t : Int) : Option Int → Bool
  | some a => decide (a ≤ t)
  | none => false

def adv (s : St) (t : Int) : St :=
  { s with clock := t, src := s.src.map (stop t), alarm := if fires t s.alarm then none else s.alarm,
           events := s.events + s.src.countP (ends t) + (if fires t s.alarm then 1 else 0) }
def active (s : St) : Nat := s.src.countP Option.isSome

def ok (s : St) (t : Int) : Bool := decide (s.clock ≤ t) && decide (t ≤ MAX)
def has (s : St) (i : Int) : Bool := decide (0 ≤ i) && decide (i < s.src.length)

def put (s : St) (i : Nat) (x : Src) : St := { s with src := s.src.set i x }
def get (s : St) (i : Nat) : Src := s.src.getD i none

def activate (s : St) (i t : Int) : Int × St :=
  if has s i && ok s t then (0, put (adv s t) i.toNat (some none)) else (1, s)
def deact (s : St) (i : Nat) : St :=
  if (get s i).isSome then { put s i none with events := s.events + 1 } else s
def deactivate (s : St) (i t : Int) : Int × St :=
  if has s i && ok s t then (0, deact (adv s t) i.toNat) else (1, s)
def pulse1 (s : St) (i : Nat) (h : Int) : St :=
  match get s i with
  | none => put s i (some (some h))
  | some none => s
  | some (some x) => put s i (some (some (if h > x then h else x)))
def pulse (s : St) (i t h : Int) : Int × St :=
  if has s i && ok s t && decide (h ≤ MAX) then (0, adv (pulse1 (adv s t) i.toNat (t + h)) t) else (1, s)
def setAlarm (s : St) (t a : Int) : Int × St :=
  if ok s t && decide (a ≤ MAX) then (0, adv { adv s t with alarm := some a } t) else (1, s)
def advance (s : St) (t : Int) : Int × St :=
  if ok s t then (0, adv s t) else (1, s)
def armOk (s : St) (e : Int) : Bool := decide (s.events = e) && decide (active s = 0)
def arm (s : St) (e t : Int) : Int × St :=
  if ok s t then (if armOk (adv s t) e then (0, { adv s t with armed := some e }) else (17, s)) else (1, s)
def disarm (s : St) : St := { s with armed := none }
def mustAbort (s : St) : Bool :=
  match s.armed with
  | some r => decide (s.events ≠ r) || decide (0 < active s)
  | none => false
def new (n : Nat) : St := { src := List.replicate n none, alarm := none, events := 0, armed := none, clock := 0 }

/- The program's layout. -/
abbrev Tri := Bool × Bool × Int
def tri (x : Tri) : List Value := [.bool x.1, .bool x.2.1, .int .u64 x.2.2]
theorem tri_length (x : Tri) : (tri x).length = 3 := rfl
def triOf : Src → Tri
  | none => (false, false, 0)
  | some none => (true, false, 0)
  | some (some h) => (true, true, h)

def enc (L : List Tri) (n : Int) (al : Bool) (at_ : Int) (ev : Int) (ar : Bool) (re : Int) (ck : Int) : List Value :=
  L.flatMap tri ++ [.int .i64 n, .bool al, .int .u64 at_, .int .i64 ev, .bool ar, .int .i64 re, .int .u64 ck]

section
variable {L : List Tri} {n : Int} {al : Bool} {at_ : Int} {ev : Int} {ar : Bool} {re : Int} {ck : Int}
theorem flat96 (hL : L.length = 32) : (L.flatMap tri).length = 96 := by rw [flat_length tri_length, hL]
theorem enc_length (hL : L.length = 32) : (enc L n al at_ ev ar re ck).length = 103 := by simp [enc, flat96 hL]
theorem enc_hi (hL : L.length = 32) (k : Nat) : (enc L n al at_ ev ar re ck)[96 + k]? = [Value.int .i64 n, .bool al, .int .u64 at_, .int .i64 ev, .bool ar, .int .i64 re, .int .u64 ck][k]? := by
  unfold enc
  rw [List.getElem?_append_right (by rw [flat96 hL]; omega), flat96 hL]
  congr 1; omega
theorem enc_set_hi (hL : L.length = 32) (k : Nat) (v : Value) : (enc L n al at_ ev ar re ck).set (96 + k) v = L.flatMap tri ++ [Value.int .i64 n, .bool al, .int .u64 at_, .int .i64 ev, .bool ar, .int .i64 re, .int .u64 ck].set k v := by
  unfold enc
  rw [List.set_append_right _ _ (by rw [flat96 hL]; omega), flat96 hL]
  congr 2; omega
theorem enc_lo (hL : L.length = 32) (i j : Nat) (hi : i < 32) (hj : j < 3) : (enc L n al at_ ev ar re ck)[i * 3 + j]? = (tri (L[i]'(by omega)))[j]? := by
  unfold enc
  rw [List.getElem?_append_left (by rw [flat96 hL]; omega), flat_get tri_length L i j (by omega) hj]
theorem enc_set_lo (hL : L.length = 32) (i j : Nat) (hi : i < 32) (hj : j < 3) (v : Value) (y : Tri) (hy : (tri (L[i]'(by omega))).set j v = tri y) :
    (enc L n al at_ ev ar re ck).set (i * 3 + j) v = enc (L.set i y) n al at_ ev ar re ck := by
  unfold enc
  rw [List.set_append_left _ _ (by rw [flat96 hL]; omega), flat_set tri_length v y L i j (by omega) hj hy]
theorem enc_row (hL : L.length = 32) (i : Nat) (hi : i < 32) : ((enc L n al at_ ev ar re ck).drop (i * 3)).take 3 = tri (L[i]'(by omega)) := by
  unfold enc
  rw [List.drop_append_of_le_length (by rw [flat96 hL]; omega), List.take_append_of_le_length (by simp [flat96 hL]; omega), flat_row tri_length L i (by omega)]
theorem enc_arr (hL : L.length = 32) : ((enc L n al at_ ev ar re ck).drop 0).take 96 = L.flatMap tri := by
  unfold enc
  rw [List.drop_zero, List.take_append_of_le_length (by rw [flat96 hL]; omega), List.take_of_length_le (by rw [flat96 hL]; omega)]
theorem enc_one : ∀ v ∈ enc L n al at_ ev ar re ck, one v = true := by
  intro v hv
  simp only [enc, List.mem_append, List.mem_flatMap, tri] at hv
  rcases hv with ⟨x, _, hv⟩ | hv
  · simp only [List.mem_cons, List.not_mem_nil, or_false] at hv
    rcases hv with rfl | rfl | rfl <;> rfl
  · simp only [List.mem_cons, List.not_mem_nil, or_false] at hv
    rcases hv with rfl | rfl | rfl | rfl | rfl | rfl | rfl <;> rfl
end

def pad (l : List Src) : List Tri := (l ++ List.replicate (32 - l.length) none).map triOf
theorem pad_length {l : List Src} (h : l.length ≤ 32) : (pad l).length = 32 := by simp [pad]; omega
theorem pad_get {l : List Src} (_h : l.length ≤ 32) {i : Nat} (hi : i < l.length) (hp : i < (pad l).length) : (pad l)[i] = triOf l[i] := by
  simp only [pad, List.getElem_map, List.getElem_append_left hi]
theorem pad_get_hi {l : List Src} (_h : l.length ≤ 32) {i : Nat} (hi : l.length ≤ i) (hp : i < (pad l).length) : (pad l)[i] = (false, false, 0) := by
  simp only [pad, List.getElem_map, List.getElem_append_right hi, List.getElem_replicate]
  rfl
theorem pad_set {l : List Src} {i : Nat} (hi : i < l.length) (x : Src) : (pad l).set i (triOf x) = pad (l.set i x) := by
  simp only [pad, List.length_set]
  rw [← List.map_set, List.set_append_left _ _ hi]

def encP (s : St) : List Value := enc (pad s.src) s.src.length s.alarm.isSome (s.alarm.getD 0) s.events s.armed.isSome (s.armed.getD 0) s.clock

end Go.Proofs.Ytpinpccamfhofaa.Wk
namespace Go.Proofs.Ytpinpccamfhofaa.Wk
open Go Go.Ev Go.Proofs

/-- Block b holds the program's object in state s. -/
def Prog (w : World) (b : Nat) (s : St) : Prop := At w b (encP s) 147 ∧ s.src.length ≤ 32

theorem Prog.ext {w w' : World} {b : Nat} {s : St} {X : Nat → Prop} (h : Prog w b s) (he : Ext w w' X) (hx : ¬ X b) : Prog w' b s := ⟨h.1.ext he hx, h.2⟩


section
variable {w : World} {b : Nat} {Q : Value → World → Prop}

theorem permitted_c {s : St} {t : Int} (h : Prog w b s) (hQ : Q (.bool (ok s t)) w) : CallE Try.prog 89 #[.pointer (some ⟨b, 0, none⟩), .int .u64 t] w Q := by
  apply C.wakeup_Sources_permitted
  unfold W.wakeup_Sources_permitted
  simp only [add_mk, Nat.zero_add]
  refine ld_i h.1 (enc_hi (pad_length h.2) 6) ?_
  rw [fI_int]
  unfold ok at hQ
  by_cases hc : s.clock ≤ t
  · rw [decide_eq_true hc] at hQ
    rw [decide_eq_true (show t ≥ s.clock from hc)]
    exact hQ
  · rw [decide_eq_false hc] at hQ
    rw [decide_eq_false (show ¬ t ≥ s.clock from hc)]
    exact hQ

theorem exists_c {s : St} {i : Int} (h : Prog w b s) (hQ : Q (.bool (has s i)) w) : CallE Try.prog 92 #[.pointer (some ⟨b, 0, none⟩), .int .i64 i] w Q := by
  apply C.wakeup_Sources_exists
  unfold W.wakeup_Sources_exists
  simp only [add_mk, Nat.zero_add]
  unfold has at hQ
  by_cases hc : 0 ≤ i
  · rw [decide_eq_true hc] at hQ
    rw [decide_eq_true (show i ≥ 0 from hc), br_true]
    refine ld_i h.1 (enc_hi (pad_length h.2) 0) ?_
    rw [fI_int]
    exact hQ
  · rw [decide_eq_false hc] at hQ
    rw [decide_eq_false (show ¬ i ≥ 0 from hc), br_false]
    exact hQ

section
variable {L : List Tri} {n : Int} {al : Bool} {at_ : Int} {ev : Int} {ar : Bool} {re : Int} {ck : Int}

theorem release_c {i : Int} (h : At w b (enc L n al at_ ev ar re ck) 147) (hL : L.length = 32) (h0 : 0 ≤ i) (h1 : i < 32)
    (hQ : ∀ w', At w' b (enc (L.set i.toNat ((L[i.toNat]'(by omega)).1, false, 0)) n al at_ ev ar re ck) 147 → Ext w w' (· = b) → Q (.tuple #[]) w') :
    CallE Try.prog 93 #[.pointer (some ⟨b, 0, none⟩), .int .i64 i] w Q := by
  apply C.wakeup_Sources_release
  unfold W.wakeup_Sources_release
  refine ix_arr 32 3 144 h0 (by omega) ?_
  simp only [add_mk, Nat.zero_add, Nat.add_zero, fA_ptr]
  refine st_i h (by rw [enc_length hL]; omega) fun w1 a1 e1 z1 => ?_
  rw [enc_set_lo hL i.toNat 1 (by omega) (by omega) (.bool false) ((L[i.toNat]'(by omega)).1, false, (L[i.toNat]'(by omega)).2.2) rfl] at a1
  refine ix_arr 32 3 144 h0 (by omega) ?_
  simp only [add_mk, Nat.zero_add, fA_ptr]
  refine st_i a1 (by rw [enc_length (by simpa using hL)]; omega) fun w2 a2 e2 z2 => ?_
  rw [enc_set_lo (by simpa using hL) i.toNat 2 (by omega) (by omega) (.int .u64 0) ((L[i.toNat]'(by omega)).1, false, 0) (by simp [tri])] at a2
  rw [List.set_set] at a2
  exact hQ w2 a2 (e1.trans e2 (fun _ _ h => h) (fun _ _ h => h))

theorem end_c {i : Int} (h : At w b (enc L n al at_ ev ar re ck) 147) (hL : L.length = 32) (h0 : 0 ≤ i) (h1 : i < 32)
    (hQ : ∀ w', At w' b (enc (L.set i.toNat (false, false, 0)) n al at_ (IntKind.wrap .i64 (ev + 1)) ar re ck) 147 → Ext w w' (· = b) → Q (.tuple #[]) w') :
    CallE Try.prog 113 #[.pointer (some ⟨b, 0, none⟩), .int .i64 i] w Q := by
  apply C.wakeup_Sources_end
  unfold W.wakeup_Sources_end
  refine ix_arr 32 3 144 h0 (by omega) ?_
  simp only [add_mk, Nat.zero_add, Nat.add_zero, fA_ptr]
  refine st_i h (by rw [enc_length hL]; omega) fun w1 a1 e1 z1 => ?_
  rw [show i.toNat * 3 = i.toNat * 3 + 0 from rfl, enc_set_lo hL i.toNat 0 (by omega) (by omega) (.bool false) (false, (L[i.toNat]'(by omega)).2) rfl] at a1
  refine release_c a1 (by simpa using hL) h0 h1 fun w2 a2 e2 => ⟨rfl, ?_⟩
  simp only [List.getElem_set_self, List.set_set] at a2
  have hL2 : (L.set i.toNat (false, false, 0)).length = 32 := by simpa using hL
  refine ld_i a2 (enc_hi hL2 3) ?_
  rw [fI_int]
  refine st_i a2 (by rw [enc_length hL2]; omega) fun w3 a3 e3 z3 => ?_
  rw [show 99 = 96 + 3 from rfl, enc_set_hi hL2 3] at a3
  exact hQ w3 a3 ((e1.trans e2 (fun _ _ h => h) (fun _ _ h => h)).trans e3 (fun _ _ h => h) (fun _ _ h => h))
end

/-- The state after the first k sources have been looked at. -/
def advTo (s : St) (t : Int) (k : Nat) : St :=
  { s with clock := t, src := (s.src.take k).map (stop t) ++ s.src.drop k, events := s.events + (s.src.take k).countP (ends t) }

theorem advTo_length (s : St) (t : Int) (k : Nat) : (advTo s t k).src.length = s.src.length := by simp [advTo]; omega
theorem advTo_get (s : St) (t : Int) {k : Nat} (hk : k < s.src.length) (h : k < (advTo s t k).src.length) : (advTo s t k).src[k] = s.src[k] := by
  simp only [advTo]
  rw [List.getElem_append_right (by simp; omega)]
  simp [Nat.min_eq_left (Nat.le_of_lt hk)]
theorem take_snoc {α : Type} (l : List α) {k : Nat} (hk : k < l.length) : l.take (k + 1) = l.take k ++ [l[k]] := by
  rw [List.take_succ_eq_append_getElem hk]
theorem set_mid {α : Type} (l r : List α) (k : Nat) (x y : α) (hk : k = l.length) : (l ++ x :: r).set k y = l ++ y :: r := by
  subst hk; rw [List.set_append_right _ _ (Nat.le_refl _)]; simp

theorem advTo_stop (s : St) (t : Int) {k : Nat} (hk : k < s.src.length) (he : ends t s.src[k] = true) :
    advTo s t (k + 1) = { advTo s t k with src := (advTo s t k).src.set k none, events := (advTo s t k).events + 1 } := by
  simp only [advTo, take_snoc _ hk, List.map_append, List.map_cons, List.map_nil, List.countP_append, List.countP_cons, List.countP_nil, he, stop]
  rw [List.drop_eq_getElem_cons hk, set_mid _ _ _ _ _ (by simp; omega)]
  simp only [if_true, List.append_assoc, List.singleton_append, St.mk.injEq, true_and, and_true]
  omega
theorem advTo_keep (s : St) (t : Int) {k : Nat} (hk : k < s.src.length) (he : ends t s.src[k] = false) : advTo s t (k + 1) = advTo s t k := by
  simp only [advTo, take_snoc _ hk, List.map_append, List.map_cons, List.map_nil, List.countP_append, List.countP_cons, List.countP_nil, he, stop]
  rw [List.drop_eq_getElem_cons hk]
  simp
theorem advTo_all (s : St) (t : Int) : advTo s t s.src.length = { s with clock := t, src := s.src.map (stop t), events := s.events + s.src.countP (ends t) } := by
  simp [advTo]

theorem advance_k8_c {s : St} {t : Int} (h : Prog w b s) (hc : 0 ≤ s.events) (hm : s.events < 9223372036854775807)
    (hQ : ∀ w', Prog w' b { s with alarm := if fires t s.alarm then none else s.alarm, events := s.events + (if fires t s.alarm then 1 else 0) } → Ext w w' (· = b) → Q (.tuple #[]) w') :
    W.wakeup_Sources_advance_k8 ⟨b, 0, none⟩ t w Q := by
  have hL := pad_length h.2
  have key : ∀ f : Bool, f = fires t s.alarm → W.wakeup_Sources_advance_k9 ⟨b, 0, none⟩ f w Q := by
    intro f hf
    unfold W.wakeup_Sources_advance_k9
    simp only [add_mk, Nat.zero_add]
    cases f with
    | false =>
      rw [br_false]
      rw [← hf] at hQ
      refine hQ w ?_ (Ext.refl _ _)
      simpa using h
    | true =>
      rw [br_true]
      rw [← hf] at hQ
      refine st_i h.1 (by rw [encP, enc_length hL]; omega) fun w1 a1 e1 z1 => ?_
      rw [encP, show 97 = 96 + 1 from rfl, enc_set_hi hL 1] at a1
      change At w1 b (enc (pad s.src) s.src.length false (s.alarm.getD 0) s.events s.armed.isSome (s.armed.getD 0) s.clock) _ at a1
      refine st_i a1 (by rw [enc_length hL]; omega) fun w2 a2 e2 z2 => ?_
      rw [show 98 = 96 + 2 from rfl, enc_set_hi hL 2] at a2
      change At w2 b (enc (pad s.src) s.src.length false 0 s.events s.armed.isSome (s.armed.getD 0) s.clock) _ at a2
      refine ld_i a2 (enc_hi hL 3) ?_
      rw [fI_int]
      refine st_i a2 (by rw [enc_length hL]; omega) fun w3 a3 e3 z3 => ?_
      rw [show 99 = 96 + 3 from rfl, enc_set_hi hL 3, wrap_i64 (by omega) (by omega)] at a3
      exact hQ w3 ⟨a3, h.2⟩ ((e1.trans e2 (fun _ _ h => h) (fun _ _ h => h)).trans e3 (fun _ _ h => h) (fun _ _ h => h))
  unfold W.wakeup_Sources_advance_k8
  simp only [add_mk, Nat.zero_add]
  refine ld_i h.1 (enc_hi hL 1) ?_
  rw [fB_bool]
  cases ha : s.alarm with
  | none =>
    simp only [Option.isSome_none, br_false]
    exact key false (by rw [ha]; rfl)
  | some a =>
    simp only [Option.isSome_some, br_true]
    refine ld_i h.1 (enc_hi hL 2) ?_
    rw [fI_int, ha]
    exact key _ (by rw [ha]; rfl)

theorem advance_c {s : St} {t : Int} (h : Prog w b s) (hc : 0 ≤ s.events) (hm : s.events + s.src.length < 9223372036854775807)
    (hQ : ∀ w', Prog w' b (adv s t) → Ext w w' (· = b) → Q (.tuple #[]) w') :
    CallE Try.prog 90 #[.pointer (some ⟨b, 0, none⟩), .int .u64 t] w Q := by
  have hL := pad_length h.2
  have hlen := h.2
  apply C.wakeup_Sources_advance
  unfold W.wakeup_Sources_advance
  simp only [add_mk, Nat.zero_add]
  refine st_i h.1 (by rw [encP, enc_length hL]; omega) fun w1 a1 e1 z1 => ?_
  rw [encP, show 102 = 96 + 6 from rfl, enc_set_hi hL 6] at a1
  refine ld_i a1 (enc_hi hL 0 (ck := t)) ?_
  rw [fI_int]
  refine LoopW.nat s.src.length (fun k x w' => x = ((k : Int), ()) ∧ Prog w' b (advTo s t k) ∧ Ext w w' (· = b)) ⟨rfl, ⟨?_, h.2⟩, e1⟩ ?_
  · have : advTo s t 0 = { s with clock := t } := by simp [advTo]
    rw [this]
    exact a1
  rintro k x w2 next hk ⟨rfl, hp, e2⟩ hnext
  have hplen := advTo_length s t k
  have hPL := pad_length hp.2
  by_cases hlt : k < s.src.length
  · rw [decide_eq_true (show (k : Int) < (s.src.length : Int) by omega), br_true]
    refine ix_arr 32 3 144 (by omega) (by omega) ?_
    simp only [add_mk, Nat.zero_add, fA_ptr, Int.toNat_natCast]
    refine ld_g 3 hp.1 (by rw [encP, enc_length hPL]; omega) ?_
    rw [encP, enc_row hPL k (by omega), fG_agg, pad_get hp.2 (by omega) (by omega), advTo_get s t hlt (by omega)]
    refine al_st 3 rfl (by intro v hv; simp only [tri, List.mem_cons, List.not_mem_nil, or_false] at hv; rcases hv with rfl | rfl | rfl <;> rfl) ?_
    intro b2 w3 hb2 a3 e3 z3
    have hb : b < w2.heap.size := hp.1.lt
    have hp3 : Prog w3 b (advTo s t k) := hp.ext e3 (fun h => h)
    simp only [add_mk, Nat.zero_add]
    have hstep : ∀ f : Bool, f = ends t s.src[k] → W.wakeup_Sources_advance_k6 ⟨b, 0, none⟩ t k s.src.length k f next w3 Q := by
      intro f hf
      unfold W.wakeup_Sources_advance_k6
      have hw : IntKind.wrap .i64 ((k : Int) + 1) = ((k + 1 : Nat) : Int) := by rw [wrap_i64 (by omega) (by omega)]; omega
      have e23 : Ext w w3 (· = b) := e2.trans e3 (fun _ _ h => h) (fun _ _ h => h.elim)
      cases f with
      | false =>
        rw [br_false, hw]
        exact hnext hlt _ _ ⟨rfl, by rw [advTo_keep s t hlt hf.symm]; exact hp3, e23⟩
      | true =>
        rw [br_true]
        refine end_c hp3.1 hPL (by omega) (by omega) fun w4 a4 e4 => ⟨rfl, ?_⟩
        rw [hw]
        refine hnext hlt _ _ ⟨rfl, ?_, e23.trans e4 (fun _ _ h => h) (fun _ _ h => h)⟩
        have hcp : (s.src.take k).countP (ends t) ≤ k := Nat.le_trans List.countP_le_length (by simp; omega)
        have hev : (advTo s t k).events = s.events + ((s.src.take k).countP (ends t) : Nat) := rfl
        rw [advTo_stop s t hlt hf.symm]
        refine ⟨?_, by simpa [hplen] using h.2⟩
        rw [Int.toNat_natCast, show (false, false, (0 : Int)) = triOf none from rfl, pad_set (by omega), wrap_i64 (by omega) (by omega)] at a4
        unfold encP
        simp only [List.length_set]
        exact a4
    refine ld_i a3 rfl ?_
    rw [fB_bool]
    cases hs : s.src[k] with
    | none => exact hstep false (by rw [hs]; rfl)
    | some y =>
      cases y with
      | none =>
        rw [hs] at a3
        simp only [triOf, br_true]
        refine ld_i a3 rfl ?_
        rw [fB_bool]
        exact hstep false (by rw [hs]; rfl)
      | some x =>
        rw [hs] at a3
        simp only [triOf, br_true]
        refine ld_i a3 rfl ?_
        rw [fB_bool]
        simp only [triOf, br_true]
        refine ld_i a3 rfl ?_
        rw [fI_int]
        exact hstep _ (by rw [hs]; rfl)
  · have hke : k = s.src.length := by omega
    subst hke
    rw [decide_eq_false (by omega), br_false]
    have hcp : s.src.countP (ends t) ≤ s.src.length := List.countP_le_length
    rw [advTo_all] at hp
    refine advance_k8_c hp (by show 0 ≤ s.events + _; omega) (by show s.events + _ < _; omega) fun w3 hp3 e3 => ?_
    exact hQ w3 hp3 (e2.trans e3 (fun _ _ h => h) (fun _ _ h => h))

/-- Few enough events that nothing wraps. -/
def Small (s : St) : Prop := 0 ≤ s.events ∧ s.events ≤ 4611686018427387904

theorem tri_one (x : Tri) : ∀ v ∈ tri x, one v = true := by
  intro v hv; simp only [tri, List.mem_cons, List.not_mem_nil, or_false] at hv; rcases hv with rfl | rfl | rfl <;> rfl

theorem countP_pad (l : List Src) : (pad l).countP (·.1) = l.countP Option.isSome := by
  have h1 : ((fun x : Tri => x.1) ∘ triOf) = Option.isSome := by
    funext x
    cases x with
    | none => rfl
    | some y => cases y <;> rfl
  unfold pad
  rw [List.countP_map, h1, List.countP_append, List.countP_replicate]
  simp

theorem counts_c {s : St} (h : Prog w b s) (hQ : ∀ w', Ext w w' (fun _ => False) → Q (.tuple #[.int .i64 s.events, .int .i64 (active s)]) w') :
    CallE Try.prog 91 #[.pointer (some ⟨b, 0, none⟩)] w Q := by
  have hL := pad_length h.2
  apply C.wakeup_Sources_Counts
  unfold W.wakeup_Sources_Counts
  simp only [add_mk, Nat.zero_add]
  refine ld_g 96 h.1 (by rw [encP, enc_length hL]; omega) ?_
  rw [encP, enc_arr hL, fG_agg]
  refine LoopW.nat 32 (fun k x w' => x = (((((pad s.src).take k).countP (·.1) : Nat) : Int), (k : Int), ()) ∧ Ext w w' (fun _ => False)) ⟨rfl, Ext.refl _ _⟩ ?_
  rintro k x w2 next hk ⟨rfl, e2⟩ hnext
  dsimp only
  have hp : Prog w2 b s := h.ext e2 (fun h => h)
  by_cases hlt : k < 32
  · rw [decide_eq_true (show (k : Int) < 32 by omega), br_true]
    refine ix_agg 32 3 144 (by omega) (by omega) ?_
    rw [Int.toNat_natCast, flat_row tri_length (pad s.src) k (by omega), fG_agg]
    refine al_st 3 rfl (tri_one _) ?_
    intro b2 w3 hb2 a3 e3 z3
    simp only [add_mk, Nat.zero_add]
    refine ld_i a3 rfl ?_
    rw [fB_bool]
    have hcp : ((pad s.src).take k).countP (·.1) ≤ k := Nat.le_trans List.countP_le_length (by simp; omega)
    have hw : IntKind.wrap .i64 ((k : Int) + 1) = ((k + 1 : Nat) : Int) := by rw [wrap_i64 (by omega) (by omega)]; omega
    have hsn : ((pad s.src).take (k + 1)).countP (·.1) = ((pad s.src).take k).countP (·.1) + (if ((pad s.src)[k]'(by omega)).1 then 1 else 0) := by
      rw [take_snoc _ (by omega), List.countP_append]; simp [List.countP_cons]
    rw [hw, wrap_i64 (by omega) (by omega)]
    refine br_of (fun hb => ?_) (fun hb => ?_)
    · rw [hb, if_pos rfl] at hsn
      exact hnext hlt _ _ ⟨by rw [hsn]; simp, e2.tr e3⟩
    · rw [hb, if_neg (by simp)] at hsn
      exact hnext hlt _ _ ⟨by rw [hsn]; simp, e2.tr e3⟩
  · rw [decide_eq_false (by omega), br_false]
    refine ld_i hp.1 (enc_hi hL 3) ?_
    rw [fI_int]
    have := hQ w2 e2
    rw [List.take_of_length_le (by omega), countP_pad]
    exact this

theorem has_spec {s : St} {i : Int} (h : has s i = true) : 0 ≤ i ∧ i < s.src.length := by
  simpa [has] using h
theorem adv_length (s : St) (t : Int) : (adv s t).src.length = s.src.length := by simp [adv]
theorem adv_events (s : St) (t : Int) : s.events ≤ (adv s t).events ∧ (adv s t).events ≤ s.events + s.src.length + 1 := by
  have h1 : s.src.countP (ends t) ≤ s.src.length := List.countP_le_length
  simp only [adv]
  split <;> omega

theorem activate_c {s : St} {i t : Int} (h : Prog w b s) (hs : Small s) (hQ : ∀ w', Prog w' b (activate s i t).2 → Ext w w' (· = b) → Q (.int .i64 (activate s i t).1) w') :
    CallE Try.prog 58 #[.pointer (some ⟨b, 0, none⟩), .int .i64 i, .int .u64 t] w Q := by
  have hlen := h.2
  obtain ⟨hs0, hs1⟩ := hs
  apply C.wakeup_Sources_Activate
  unfold W.wakeup_Sources_Activate
  refine exists_c h ?_
  rw [fB_bool]
  unfold activate at hQ
  cases hi : has s i with
  | false => rw [hi] at hQ; exact hQ w h (Ext.refl _ _)
  | true =>
    refine permitted_c h ?_
    rw [fB_bool]
    cases ht : ok s t with
    | false => rw [hi, ht] at hQ; exact hQ w h (Ext.refl _ _)
    | true =>
      rw [hi, ht] at hQ
      obtain ⟨h0, h1⟩ := has_spec hi
      refine advance_c h hs0 (by omega) fun w1 p1 e1 => ⟨rfl, ?_⟩
      have hL := pad_length p1.2
      have hl := adv_length s t
      refine ix_arr 32 3 144 h0 (by omega) ?_
      simp only [add_mk, Nat.zero_add, Nat.add_zero, fA_ptr]
      refine st_i p1.1 (by rw [encP, enc_length hL]; omega) fun w2 a2 e2 z2 => ?_
      rw [show i.toNat * 3 = i.toNat * 3 + 0 from rfl, encP, enc_set_lo hL i.toNat 0 (by omega) (by omega) (.bool true) (true, ((pad (adv s t).src)[i.toNat]'(by omega)).2) rfl] at a2
      refine release_c a2 (by simpa using hL) h0 (by omega) fun w3 a3 e3 => ⟨rfl, ?_⟩
      simp only [List.getElem_set_self, List.set_set] at a3
      refine hQ w3 ⟨?_, by simpa [put, hl] using hlen⟩ ((e1.tr e2).tr e3)
      rw [show (true, false, (0 : Int)) = triOf (some none) from rfl, pad_set (by omega)] at a3
      simp only [Bool.and_self, if_true, encP, put, List.length_set]
      exact a3

theorem get_of {s : St} {i : Nat} (h : i < s.src.length) : get s i = s.src[i] := by simp [get, h]

theorem MAX_eq : MAX = 1152921504606846976 := rfl

theorem ok_spec {s : St} {t : Int} (h : ok s t = true) : s.clock ≤ t ∧ t ≤ 1152921504606846976 := by
  simp only [ok, Bool.and_eq_true, decide_eq_true_eq] at h
  exact h

theorem encP_length {s : St} (h : s.src.length ≤ 32) : (encP s).length = 103 := enc_length (pad_length h)

theorem arm_c {s : St} {e t : Int} (h : Prog w b s) (hs : Small s) (hQ : ∀ w', Prog w' b (arm s e t).2 → Ext w w' (· = b) → Q (.int .i64 (arm s e t).1) w') :
    CallE Try.prog 57 #[.pointer (some ⟨b, 0, none⟩), .int .i64 e, .int .u64 t] w Q := by
  have hlen := h.2
  obtain ⟨hs0, hs1⟩ := hs
  apply C.wakeup_Sources_Arm
  unfold W.wakeup_Sources_Arm
  refine permitted_c h ?_
  rw [fB_bool]
  unfold arm at hQ
  cases ht : ok s t with
  | false => rw [ht] at hQ; exact hQ w h (Ext.refl _ _)
  | true =>
    rw [ht] at hQ
    simp only [Bool.not_true, br_false, if_true] at hQ ⊢
    refine ld_g 103 h.1 (by rw [encP_length hlen]; omega) ?_
    rw [fG_agg, List.drop_zero, List.take_of_length_le (by rw [encP_length hlen]; omega)]
    refine al_st 103 (encP_length hlen) enc_one ?_
    intro c w1 hc a1 e1 z1
    have hb := h.1.lt
    have hne : b ≠ c := by omega
    have p1 : Prog w1 c s := ⟨a1, hlen⟩
    have q1 : Prog w1 b s := h.ext e1 (fun h => h)
    refine advance_c p1 hs0 (by omega) fun w2 p2 e2 => ⟨rfl, ?_⟩
    have q2 : Prog w2 b s := q1.ext e2 hne
    have hev := adv_events s t
    have e12 : Ext w w2 (fun _ => False) := e1.trans e2 (fun _ _ h => h) (fun b' hb' h => by omega)
    refine counts_c p2 fun w3 e3 => ⟨_, _, rfl, ?_⟩
    have p3 := p2.ext e3 (fun h => h)
    have q3 := q2.ext e3 (fun h => h)
    have e13 : Ext w w3 (fun _ => False) := e12.tr e3
    unfold armOk at hQ
    by_cases he : (adv s t).events = e
    case neg =>
      rw [decide_eq_false he] at hQ
      rw [show ((adv s t).events != e) = true by simpa using he, br_true]
      exact hQ w3 q3 e13.of0
    rw [decide_eq_true he] at hQ
    rw [show ((adv s t).events != e) = false by simpa using he, br_false]
    by_cases hact : active (adv s t) = 0
    case neg =>
      rw [decide_eq_false hact] at hQ
      rw [decide_eq_true (show ((active (adv s t) : Nat) : Int) > 0 by omega), br_true]
      exact hQ w3 q3 e13.of0
    rw [decide_eq_true hact] at hQ
    simp only [Bool.and_self, if_true] at hQ
    rw [decide_eq_false (show ¬ ((active (adv s t) : Nat) : Int) > 0 by omega), br_false]
    have hL := pad_length p3.2
    simp only [add_mk, Nat.zero_add]
    refine st_i p3.1 (by rw [encP, enc_length hL]; omega) fun w4 a4 e4 z4 => ?_
    rw [encP, show 100 = 96 + 4 from rfl, enc_set_hi hL 4] at a4
    change At w4 c (enc (pad (adv s t).src) (adv s t).src.length (adv s t).alarm.isSome ((adv s t).alarm.getD 0) (adv s t).events true ((adv s t).armed.getD 0) (adv s t).clock) _ at a4
    refine st_i a4 (by rw [enc_length hL]; omega) fun w5 a5 e5 z5 => ?_
    rw [show 101 = 96 + 5 from rfl, enc_set_hi hL 5] at a5
    change At w5 c (encP { adv s t with armed := some e }) _ at a5
    have q5 := (q3.ext e4 hne).ext e5 hne
    have hl5 : (encP { adv s t with armed := some e }).length = 103 := encP_length p3.2
    refine ld_g 103 a5 (by omega) ?_
    rw [fG_agg, List.drop_zero, List.take_of_length_le (by omega)]
    refine st_g 103 q5.1 (by rw [encP_length hlen]; omega) hl5 enc_one fun w6 a6 e6 z6 => ?_
    rw [splice_all _ _ (by rw [hl5, encP_length hlen])] at a6
    refine hQ w6 ⟨a6, p3.2⟩ ?_
    exact (((e13.trans e4 (fun _ _ h => h) (fun b' hb' h => by omega)).trans e5 (fun _ _ h => h) (fun b' hb' h => by omega)) : Ext w w5 (fun _ => False)).of0.tr e6

theorem mustAbort_c {s : St} (h : Prog w b s) (hQ : ∀ w', Ext w w' (fun _ => False) → Q (.bool (mustAbort s)) w') :
    CallE Try.prog 60 #[.pointer (some ⟨b, 0, none⟩)] w Q := by
  have hL := pad_length h.2
  apply C.wakeup_Sources_MustAbort
  unfold W.wakeup_Sources_MustAbort
  refine counts_c h fun w1 e1 => ⟨_, _, rfl, ?_⟩
  have p1 := h.ext e1 (fun h => h)
  simp only [add_mk, Nat.zero_add]
  refine ld_i p1.1 (enc_hi hL 4) ?_
  rw [fB_bool]
  have hQ := hQ w1 e1
  cases ha : s.armed with
  | none =>
    rw [show mustAbort s = false by simp [mustAbort, ha]] at hQ
    exact hQ
  | some r =>
    simp only [Option.isSome_some, br_true]
    refine ld_i p1.1 (enc_hi hL 5) ?_
    rw [fI_int, ha]
    simp only [Option.getD_some]
    by_cases he : s.events = r
    · rw [show (s.events != r) = false by simpa using he, br_false]
      rw [show mustAbort s = decide (0 < active s) by simp [mustAbort, ha, he]] at hQ
      rw [show decide (((active s : Nat) : Int) > 0) = decide (0 < active s) by simp]
      exact hQ
    · rw [show (s.events != r) = true by simpa using he, br_true]
      rw [show mustAbort s = true by simp [mustAbort, ha, he]] at hQ
      exact hQ

theorem pad_new {n : Nat} (h : n ≤ 32) : pad (List.replicate n none) = List.replicate 32 (false, false, 0) := by
  unfold pad
  rw [List.length_replicate, List.replicate_append_replicate, List.map_replicate, show n + (32 - n) = 32 by omega]
  rfl

theorem new_c {n : Int} (h0 : 0 ≤ n) (h1 : n ≤ 32) (hQ : ∀ b w', b = w.heap.size → Prog w' b (new n.toNat) → Ext w w' (fun _ => False) → Q (.tuple #[.pointer (some ⟨b, 0, none⟩), .int .i64 0]) w') :
    CallE Try.prog 56 #[.int .i64 n] w Q := by
  apply C.wakeup_New
  unfold W.wakeup_New
  rw [decide_eq_false (by omega), br_false, decide_eq_false (by omega), br_false]
  refine al_i fun b w' hb a e z => ?_
  refine hQ b w' hb ⟨?_, by simp [new]; omega⟩ e
  unfold encP
  simp only [new, List.length_replicate]
  rw [pad_new (by omega), show ((n.toNat : Nat) : Int) = n by omega]
  exact a

theorem new_bad {n : Int} (h : n < 0 ∨ 32 < n) (hQ : Q (.tuple #[.pointer none, .int .i64 1]) w) : CallE Try.prog 56 #[.int .i64 n] w Q := by
  apply C.wakeup_New
  unfold W.wakeup_New
  refine br_of (fun _ => hQ) (fun h1 => ?_)
  simp only [decide_eq_false_iff_not] at h1
  rw [decide_eq_true (by omega), br_true]
  exact hQ

end
end Go.Proofs.Ytpinpccamfhofaa.Wk
