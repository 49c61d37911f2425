/-
  Wake sources: what the calls do, as functions of a plain state; and how the program lays that state out in memory. No program's text is used here; no condition.
-/
import Derived.Test.YtdfjakdgclbleaaLst
namespace Go.Proofs.Ytdfjakdgclbleaa.Wk
open Go Go.Ev

/-- A source: inactive, active, active up to a time. -/
abbrev Src := Option (Option Int)

structure St where
  src : List Src
  alarm : Option Int
  events : Int
  armed : Option Int
  clock : Int

def MAX : Int := 1152921504606846976

def ends (t : Int) : Src → Bool
  | some (some h) => decide (h ≤ t)
  | _ => false
def stop (t : Int) (x : Src) : Src := if ends t x then none else x
def fires (t : Int) : Option Int → Bool
  | some a => decide (a ≤ t)
  | none => false

def adv (s : St) (t : Int) : St :=
  { s with clock := t, src := s.src.map (stop t), alarm := if fires t s.alarm then none else s.alarm,
           events := s.events + s.src.countP (ends t) + (if fires t s.alarm then 1 else 0) }
def active (s : St) : Nat := s.src.countP Option.isSome

def ok (s : St) (t : Int) : Bool := decide (s.clock ≤ t) && decide (t ≤ MAX)
def has (s : St) (i : Int) : Bool := decide (0 ≤ i) && decide (i < s.src.length)

def put (s : St) (i : Nat) (x : Src) : St := { s with src := s.src.set i x }
def get (s : St) (i : Nat) : Src := s.src.getD i none

def activate (s : St) (i t : Int) : Int × St :=
  if has s i && ok s t then (0, put (adv s t) i.toNat (some none)) else (1, s)
def deact (s : St) (i : Nat) : St :=
  if (get s i).isSome then { put s i none with events := s.events + 1 } else s
def deactivate (s : St) (i t : Int) : Int × St :=
  if has s i && ok s t then (0, deact (adv s t) i.toNat) else (1, s)
def pulse1 (s : St) (i : Nat) (h : Int) : St :=
  match get s i with
  | none => put s i (some (some h))
  | some none => s
  | some (some x) => put s i (some (some (if h > x then h else x)))
def pulse (s : St) (i t h : Int) : Int × St :=
  if has s i && ok s t && decide (h ≤ MAX) then (0, adv (pulse1 (adv s t) i.toNat (t + h)) t) else (1, s)
def setAlarm (s : St) (t a : Int) : Int × St :=
  if ok s t && decide (a ≤ MAX) then (0, adv { adv s t with alarm := some a } t) else (1, s)
def advance (s : St) (t : Int) : Int × St :=
  if ok s t then (0, adv s t) else (1, s)
def armOk (s : St) (e : Int) : Bool := decide (s.events = e) && decide (active s = 0)
def arm (s : St) (e t : Int) : Int × St :=
  if ok s t then (if armOk (adv s t) e then (0, { adv s t with armed := some e }) else (17, s)) else (1, s)
def disarm (s : St) : St := { s with armed := none }
def mustAbort (s : St) : Bool :=
  match s.armed with
  | some r => decide (s.events ≠ r) || decide (0 < active s)
  | none => false
def new (n : Nat) : St := { src := List.replicate n none, alarm := none, events := 0, armed := none, clock := 0 }

/- The program's layout. -/
abbrev Tri := Bool × Bool × Int
def tri (x : Tri) : List Value := [.bool x.1, .bool x.2.1, .int .u64 x.2.2]
theorem tri_length (x : Tri) : (tri x).length = 3 := rfl
def triOf : Src → Tri
  | none => (false, false, 0)
  | some none => (true, false, 0)
  | some (some h) => (true, true, h)

def enc (L : List Tri) (n : Int) (al : Bool) (at_ : Int) (ev : Int) (ar : Bool) (re : Int) (ck : Int) : List Value :=
  L.flatMap tri ++ [.int .i64 n, .bool al, .int .u64 at_, .int .i64 ev, .bool ar, .int .i64 re, .int .u64 ck]

section
variable {L : List Tri} {n : Int} {al : Bool} {at_ : Int} {ev : Int} {ar : Bool} {re : Int} {ck : Int}
theorem flat96 (hL : L.length = 32) : (L.flatMap tri).length = 96 := by rw [flat_length tri_length, hL]
theorem enc_length (hL : L.length = 32) : (enc L n al at_ ev ar re ck).length = 103 := by simp [enc, flat96 hL]
theorem enc_hi (hL : L.length = 32) (k : Nat) : (enc L n al at_ ev ar re ck)[96 + k]? = [Value.int .i64 n, .bool al, .int .u64 at_, .int .i64 ev, .bool ar, .int .i64 re, .int .u64 ck][k]? := by
  unfold enc
  rw [List.getElem?_append_right (by rw [flat96 hL]; omega), flat96 hL]
  congr 1; omega
theorem enc_set_hi (hL : L.length = 32) (k : Nat) (v : Value) : (enc L n al at_ ev ar re ck).set (96 + k) v = L.flatMap tri ++ [Value.int .i64 n, .bool al, .int .u64 at_, .int .i64 ev, .bool ar, .int .i64 re, .int .u64 ck].set k v := by
  unfold enc
  rw [List.set_append_right _ _ (by rw [flat96 hL]; omega), flat96 hL]
  congr 2; omega
theorem enc_lo (hL : L.length = 32) (i j : Nat) (hi : i < 32) (hj : j < 3) : (enc L n al at_ ev ar re ck)[i * 3 + j]? = (tri (L[i]'(by omega)))[j]? := by
  unfold enc
  rw [List.getElem?_append_left (by rw [flat96 hL]; omega), flat_get tri_length L i j (by omega) hj]
theorem enc_set_lo (hL : L.length = 32) (i j : Nat) (hi : i < 32) (hj : j < 3) (v : Value) (y : Tri) (hy : (tri (L[i]'(by omega))).set j v = tri y) :
    (enc L n al at_ ev ar re ck).set (i * 3 + j) v = enc (L.set i y) n al at_ ev ar re ck := by
  unfold enc
  rw [List.set_append_left _ _ (by rw [flat96 hL]; omega), flat_set tri_length v y L i j (by omega) hj hy]
theorem enc_row (hL : L.length = 32) (i : Nat) (hi : i < 32) : ((enc L n al at_ ev ar re ck).drop (i * 3)).take 3 = tri (L[i]'(by omega)) := by
  unfold enc
  rw [List.drop_append_of_le_length (by rw [flat96 hL]; omega), List.take_append_of_le_length (by simp [flat96 hL]; omega), flat_row tri_length L i (by omega)]
theorem enc_arr (hL : L.length = 32) : ((enc L n al at_ ev ar re ck).drop 0).take 96 = L.flatMap tri := by
  unfold enc
  rw [List.drop_zero, List.take_append_of_le_length (by rw [flat96 hL]; omega), List.take_of_length_le (by rw [flat96 hL]; omega)]
theorem enc_one : ∀ v ∈ enc L n al at_ ev ar re ck, one v = true := by
  intro v hv
  simp only [enc, List.mem_append, List.mem_flatMap, tri] at hv
  rcases hv with ⟨x, _, hv⟩ | hv
  · simp only [List.mem_cons, List.not_mem_nil, or_false] at hv
    rcases hv with rfl | rfl | rfl <;> rfl
  · simp only [List.mem_cons, List.not_mem_nil, or_false] at hv
    rcases hv with rfl | rfl | rfl | rfl | rfl | rfl | rfl <;> rfl
end

def pad (l : List Src) : List Tri := (l ++ List.replicate (32 - l.length) none).map triOf
theorem pad_length {l : List Src} (h : l.length ≤ 32) : (pad l).length = 32 := by simp [pad]; omega
theorem pad_get {l : List Src} (_h : l.length ≤ 32) {i : Nat} (hi : i < l.length) (hp : i < (pad l).length) : (pad l)[i] = triOf l[i] := by
  simp only [pad, List.getElem_map, List.getElem_append_left hi]
theorem pad_get_hi {l : List Src} (_h : l.length ≤ 32) {i : Nat} (hi : l.length ≤ i) (hp : i < (pad l).length) : (pad l)[i] = (false, false, 0) := by
  simp only [pad, List.getElem_map, List.getElem_append_right hi, List.getElem_replicate]
  rfl
theorem pad_set {l : List Src} {i : Nat} (hi : i < l.length) (x : Src) : (pad l).set i (triOf x) = pad (l.set i x) := by
  simp only [pad, List.length_set]
  rw [← List.map_set, List.set_append_left _ _ hi]

def encP (s : St) : List Value := enc (pad s.src) s.src.length s.alarm.isSome (s.alarm.getD 0) s.events s.armed.isSome (s.armed.getD 0) s.clock

end Go.Proofs.Ytdfjakdgclbleaa.Wk
