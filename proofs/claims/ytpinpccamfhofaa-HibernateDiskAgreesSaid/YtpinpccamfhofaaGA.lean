/-
  Several texts in one (Eng, Mem, Lst, Sli, Str, Q, R, Aps, Byt, Bui, Eqs), each with its own word below. No condition beyond those stated.
-/
import Derived.Orders
import Derived.OrdersHeld
import Derived.StillTail
import Derived.LoopN
import Derived.KernelRfl
import Derived.Below
import Derived.Laws.IdiomStrings
import Derived.Laws.Strings
import Derived.ChangeKeysEq
set_option linter.unusedVariables false
set_option linter.unusedSimpArgs false
/-
  An evaluator of the translated code that computes, for a function's body, the condition under which it returns with a given property; and the proof that the condition suffices ('calls_of_ev'). Of any program; no condition.
-/
namespace Go.Ev
open Go

abbrev Env := List (Nat × Value)

def look : Env → Nat → Option Value
  | [], _ => none
  | (k, v) :: r, t => match Nat.beq k t with
    | true => some v
    | false => look r t

theorem look_cons (k : Nat) (v : Value) (r : Env) (t : Nat) : look ((k, v) :: r) t = match Nat.beq k t with
    | true => some v
    | false => look r t := rfl

/-- fx: what stays as it is; e: what is told since. -/
def look2 (fx e : Env) (t : Nat) : Option Value :=
  match look e t with
  | some v => some v
  | none => look fx t

def opv (fx e : Env) : Operand → Option Value
  | .tmp t => look2 fx e t
  | .const v => some v
  | .global g => some (.pointer (some ⟨g, 0, none⟩))
  | .func f => some (.func (.func f) #[] #[])

def rho (fx e : Env) (x : Operand) : Value :=
  match opv fx e x with
  | some v => v
  | none => undef

def known (fx e : Env) : List Operand → Bool
  | [] => true
  | x :: r => match opv fx e x with
    | some _ => known fx e r
    | none => false

/-- What the walk knows of a frame. -/
structure Knows (N : Nat) (fx e : Env) (a : Act) : Prop where
  size : N ≤ a.tmps.size
  defers : a.defers = []
  at_ : ∀ t v, look2 fx e t = some v → a.tmps.getD t undef = v
  fix : ∀ t v, look fx t = some v → a.tmps.getD t undef = v

theorem look2_cons {fx e : Env} {t s : Nat} {u v : Value} (h : look2 fx ((t, v) :: e) s = some u) : (t = s ∧ v = u) ∨ (t ≠ s ∧ look2 fx e s = some u) := by
  unfold look2 at h
  rw [look_cons] at h
  cases hb : Nat.beq t s with
  | true =>
    rw [hb] at h
    exact .inl ⟨Nat.eq_of_beq_eq_true hb, by simpa using h⟩
  | false =>
    rw [hb] at h
    refine .inr ⟨fun hc => ?_, h⟩
    subst hc
    rw [Nat.beq_refl] at hb
    cases hb

theorem Knows.cons {N : Nat} {fx e : Env} {a : Act} {t : Nat} {v : Value} (h : Knows N fx e a) (hv : a.tmps.getD t undef = v) : Knows N fx ((t, v) :: e) a := by
  refine ⟨h.size, h.defers, fun s u hs => ?_, h.fix⟩
  rcases look2_cons hs with ⟨rfl, rfl⟩ | ⟨_, hs⟩
  · exact hv
  · exact h.at_ s u hs

theorem getD_put {a : Act} {d s : Nat} {v : Value} (hne : d ≠ s) : (a.put (some d) v).tmps.getD s undef = a.tmps.getD s undef := by
  simp only [Act.put, Array.getD_eq_getD_getElem?]
  rw [Array.getElem?_setIfInBounds_ne hne]

theorem Knows.put {N : Nat} {fx e : Env} {a : Act} {d : Nat} {v : Value} (h : Knows N fx e a) (hd : d < N) (hf : look fx d = none) : Knows N fx ((d, v) :: e) (a.put (some d) v) := by
  have hs := h.size
  refine ⟨by simpa [Act.put] using h.size, by simpa [Act.put] using h.defers, fun s u hl => ?_, fun s u hl => ?_⟩
  · rcases look2_cons hl with ⟨rfl, rfl⟩ | ⟨hne, hs⟩
    · have : d < a.tmps.size := by omega
      simp [Act.put, this]
    · rw [getD_put hne]
      exact h.at_ s u hs
  · have hne : d ≠ s := by
      intro hc
      subst hc
      rw [hf] at hl
      cases hl
    rw [getD_put hne]
    exact h.fix s u hl

theorem Knows.eval {N : Nat} {fx e : Env} {a : Act} (h : Knows N fx e a) {x : Operand} {v : Value} (hx : opv fx e x = some v) : a.eval x = v := by
  cases x with
  | tmp t => exact h.at_ t v hx
  | const u => simpa [opv, Act.eval] using hx
  | global g => simpa [opv, Act.eval] using hx
  | func f => simpa [opv, Act.eval] using hx

theorem Knows.rho {N : Nat} {fx e : Env} {a : Act} (h : Knows N fx e a) {x : Operand} (hx : (opv fx e x).isSome = true) : a.eval x = rho fx e x := by
  cases hv : opv fx e x with
  | none => rw [hv] at hx; cases hx
  | some v => rw [h.eval hv]; simp [Ev.rho, hv]

theorem known_mem {fx e : Env} : ∀ {l : List Operand}, known fx e l = true → ∀ x ∈ l, (opv fx e x).isSome = true
  | [], _, x, hx => by cases hx
  | y :: r, h, x, hx => by
    unfold known at h
    split at h
    · rename_i v hv
      cases hx with
      | head => rw [hv]; rfl
      | tail _ hm => exact known_mem h x hm
    · cases h

def notSelect : Op → Bool
  | .select .. => false
  | _ => true

theorem notSelect_ne {o : Op} (h : notSelect o = true) (cs : Array SelectCase) (b : Bool) : o ≠ .select cs b := by
  intro hc; subst hc; cases h

theorem Knows.exec {N : Nat} {fx e : Env} {a : Act} (h : Knows N fx e a) {o : Oper} (hk : known fx e o.op.operands.toList = true) (hs : notSelect o.op = true) :
    execOp a.eval o = execOp (Ev.rho fx e) o :=
  execOp_congr o (fun cs b => notSelect_ne hs cs b) fun x hx => h.rho (known_mem hk x (by simpa using hx))

/-- A part of a run that asks nothing of the world. -/
def peel {α : Type} (P : Program) : Sem α → Option α
  | .pure a => some a
  | .program k => peel P (k P)
  | _ => none

theorem run_of_peel {α : Type} {P : Program} : ∀ {s : Sem α} {v : α}, peel P s = some v → ∀ w, s.run P w = .ok v w
  | .pure a, v, h, w => by simp [peel] at h; simp [Sem.run, h]
  | .program k, v, h, w => by
    have h' : peel P (k P) = some v := by simpa [peel] using h
    simpa [Sem.run] using run_of_peel h' w
  | .load .., _, h, _ | .store .., _, h, _ | .new .., _, h, _ | .shape .., _, h, _ | .freeze .., _, h, _ | .frozen .., _, h, _ | .getObj .., _, h, _
  | .setObj .., _, h, _ | .choose .., _, h, _ | .sys .., _, h, _ | .mark .., _, h, _ | .halt .., _, h, _ => by simp [peel] at h

/- The forms of a value, by a sample. -/
def ex1 : Value → (Value → Prop) → Prop
  | .int k _, F => ∃ x : Int, F (.int k x)
  | .bool _, F => ∃ b : Bool, F (.bool b)
  | .pointer none, F => ∃ p : Option Addr, F (.pointer p)
  | .pointer (some _), F => ∃ p : Addr, F (.pointer (some p))
  | .slice _ _ _, F => ∃ (a : Option Addr) (n c : Nat), F (.slice a n c)
  | .string _, F => ∃ s : ByteArray, F (.string s)
  | .agg _, F => ∃ cs : Array Value, F (.agg cs)
  | _, F => ∃ v : Value, F v

def exs : List Value → (List Value → Prop) → Prop
  | [], F => F []
  | t :: r, F => ex1 t fun x => exs r fun xs => F (x :: xs)

def fit (t : Value) (v : Value) (K : Value → Prop) : Prop :=
  match t with
  | .tuple ts => exs ts.toList fun xs => v = .tuple xs.toArray ∧ K (.tuple xs.toArray)
  | t => ex1 t fun u => v = u ∧ K u

theorem ex1_some {t : Value} {F : Value → Prop} (h : ex1 t F) : ∃ v, F v := by
  unfold ex1 at h
  split at h
  · exact h.elim fun x h => ⟨_, h⟩
  · exact h.elim fun x h => ⟨_, h⟩
  · exact h.elim fun x h => ⟨_, h⟩
  · exact h.elim fun x h => ⟨_, h⟩
  · exact h.elim fun x h => h.elim fun n h => h.elim fun c h => ⟨_, h⟩
  · exact h.elim fun x h => ⟨_, h⟩
  · exact h.elim fun x h => ⟨_, h⟩
  · exact h.elim fun x h => ⟨_, h⟩

theorem exs_some : ∀ {l : List Value} {F : List Value → Prop}, exs l F → ∃ vs, F vs
  | [], _, h => ⟨[], h⟩
  | _ :: _, _, h => (ex1_some h).elim fun x h => (exs_some h).elim fun xs h => ⟨x :: xs, h⟩

theorem fit_of {t v : Value} {K : Value → Prop} (h : fit t v K) : K v := by
  unfold fit at h
  split at h
  · obtain ⟨xs, rfl, hK⟩ := exs_some h; exact hK
  · obtain ⟨u, rfl, hK⟩ := ex1_some h; exact hK

/- What the run meets. -/
def ld (P : Program) (t : TypeId) (a : Addr) (w : World) (K : Value → Prop) : Prop := ∃ v, (loadVar t a).run P w = .ok v w ∧ K v
def st (P : Program) (t : TypeId) (a : Addr) (v : Value) (w : World) (K : World → Prop) : Prop := ∃ w', (storeVar t a v).run P w = .ok () w' ∧ K w'
def rq (P : Program) (s : Sem Value) (w : World) (K : Value → Prop) : Prop := ∃ v, s.run P w = .ok v w ∧ K v
def rv (P : Program) (s : Sem Value) (w : World) (K : Value → World → Prop) : Prop := ∃ v w', s.run P w = .ok v w' ∧ K v w'
def CallE (P : Program) (f : FuncId) (args : Array Value) (w : World) (K : Value → World → Prop) : Prop :=
  Calls P f args w fun en w' => ∃ v, en = .returned v ∧ K v w'
def br (b : Bool) (A B : Prop) : Prop :=
  match b with
  | true => A
  | false => B

def zeroT (P : Program) (t : TypeId) : Value :=
  match P.info? t with
  | some i => match i.zero with
    | some z => z
    | none => undef
  | none => undef

def put (N : Nat) (fx : Env) (d : Option Tmp) (v : Value) (e : Env) (K : Env → Prop) : Prop :=
  match d with
  | none => K e
  | some d => match Nat.blt d N with
    | true => (match look fx d with
      | none => K ((d, v) :: e)
      | some _ => False)
    | false => False

theorem put_knows {N : Nat} {fx : Env} {d : Option Tmp} {v : Value} {e : Env} {K : Env → Prop} {a : Act} (ha : Knows N fx e a) (h : put N fx d v e K) :
    ∃ e', Knows N fx e' (a.put d v) ∧ K e' := by
  unfold put at h
  split at h
  · exact ⟨e, ha, h⟩
  · split at h
    · rename_i hb
      split at h
      · rename_i hf
        exact ⟨_, ha.put (Nat.le_of_ble_eq_true hb) hf, h⟩
      · exact h.elim
    · exact h.elim

/- Two integer operands, of which the second is a constant other than zero where it divides. -/
def plainBin : BinOp → Operand → Bool
  | .quo, .const (.int _ n) | .rem, .const (.int _ n) => !(n == 0)
  | .quo, _ | .rem, _ => false
  | .shl, .const (.int _ n) | .shr, .const (.int _ n) => decide (0 ≤ n)
  | .shl, _ | .shr, _ => false
  | _, _ => true

def scalarT (P : Program) (t : TypeId) : Bool :=
  match zeroT P t with
  | .int .. | .bool _ => true
  | _ => false

def isAggTy (P : Program) (t : TypeId) : Bool :=
  match P.underlying t with
  | some (.struct _) | some (.array ..) => true
  | _ => false
/-- A struct or an array that is built out of parts of more than one cell. -/
def bigPart (P : Program) (t : TypeId) (ps : List (Nat × Operand)) : Bool :=
  match P.underlying t with
  | some (.struct fs) => ps.any fun p => match fs[p.1]? with
    | some f => isAggTy P f.type
    | none => false
  | some (.array _ e) => isAggTy P e
  | _ => false

/-- 0: computes; 1: makes memory; 2: loads; 3: stores; 4: calls; 5: may panic, else computes; 6: anything else. -/
def kindOf (P : Program) : Op → Nat
  | .move _ | .assign _ | .pick .. | .unOp .. | .fieldAddr .. | .extract .. => 0
  | .build t ps => bif bigPart P t ps.toList then 5 else 0
  | .field .. => 5
  | .nilCheck _ => 7
  | .binOp op t _ y _ => bif scalarT P t && plainBin op y then 0 else 5
  | .convert s d _ => bif scalarT P s && scalarT P d then 0 else 6
  | .alloc _ | .box .. => 1
  | .buildSlice .. => 1
  | .load .. => 2
  | .store .. => 3
  | .indexAddr .. | .index .. | .slice .. => 5
  | .call { callee := .value (.func _), .. } => 4
  | .call { callee := .builtin .len, .. } | .call { callee := .builtin .cap, .. } | .call { callee := .builtin .min, .. } | .call { callee := .builtin .max, .. } => 0
  | _ => 6

def isQuiet (P : Program) (o : Op) : Bool :=
  match kindOf P o with
  | 0 | 2 | 5 | 7 => true
  | _ => false

/-- The name of the model's entry that hands its argument back, by its bytes. -/
def sameName : String := ((Extern.AbiNoEscape.rows.map (·.1)).head?).getD ""
theorem next_none : Extern.allNextRows.lookup sameName = none := by kernel_rfl
theorem next_empty : Extern.allNextRows.lookup "" = none := by kernel_rfl
theorem generic_none : Extern.allGenericRows.lookup sameName = none := by kernel_rfl
theorem typed_none : Extern.allTypedRows.lookup sameName = none := by kernel_rfl
theorem rows_same : Extern.allRows.lookup sameName = some Extern.AbiNoEscape.same := by kernel_rfl

/-- The value part of an operation that may panic or that is none of the others. -/
def semOf (fx e : Env) (o : Oper) : Sem Value :=
  match o.op with
  | .binOp op t x y _ => do eqGuard op t x y (rho fx e x) (rho fx e y); binOp op t (rho fx e x) (rho fx e y)
  | .field t x i => Instr.field t (rho fx e x) i
  | .build t ps => Instr.build t (ps.map fun (i, x) => (i, rho fx e x))
  | .indexAddr t x i => Instr.indexAt t (rho fx e x) (rho fx e i)
  | .index t x i => Instr.index t (rho fx e x) (rho fx e i)
  | .slice t x lo hi mx => Instr.sliceAt t (rho fx e x) (lo.map (rho fx e)) (hi.map (rho fx e)) (mx.map (rho fx e))
  | .makeSlice t l c => Instr.makeSlice t (rho fx e l) (rho fx e c)
  | .convert s d x => convert s d (rho fx e x)
  | .call { callee := .builtin .append, args, argTypes } => Builtin.append_ argTypes o.type (args.map (rho fx e))
  | .call { callee := .builtin .copy, args, argTypes } => Builtin.copy_ argTypes o.type (args.map (rho fx e))
  | .call { callee := .builtin .unsafeString, args, argTypes } => Builtin.unsafeString_ argTypes o.type (args.map (rho fx e))
  | .call { callee := .builtin .unsafeSliceData, args, argTypes } => Builtin.unsafeSliceData_ argTypes o.type (args.map (rho fx e))
  | _ => stuck ""

def tagOf (P : Program) (o : Oper) : Value :=
  match o.op with
  | .indexAddr .. => .pointer (some ⟨0, 0, none⟩)
  | .load t _ => zeroT P t
  | _ => zeroT P o.type

def nn (p : Option Addr) (K : Addr → Prop) : Prop :=
  match p with
  | some a => K a
  | none => False

theorem semOf_run {P : Program} {fx e : Env} {o : Oper} {w w' : World} {v : Value} (h : (semOf fx e o).run P w = .ok v w') : (execOp (rho fx e) o).run P w = .ok (.value v) w' := by
  have bindv : ∀ s : Sem Value, s.run P w = .ok v w' → (s >>= fun x => (pure (Next.value x) : Sem Next)).run P w = .ok (.value v) w' := by
    intro s hs
    rw [Sem.run_bind, hs]; rfl
  obtain ⟨dst, op, type, pos, after, guard⟩ := o
  cases op <;> simp only [semOf] at h <;> try (simp [stuck] at h; done)
  case call c =>
    obtain ⟨callee, args, argTypes⟩ := c
    cases callee <;> try (simp [stuck] at h; done)
    rename_i b
    cases b <;> first | (simp [stuck] at h; done) | skip
    all_goals
      simp only [execOp, resolve, Bind.bind, pure, Sem.bind, invoke, builtin]
      exact bindv _ h
  all_goals exact bindv _ h

section
variable (P : Program) (N : Nat) (fx : Env)

/-- An operation that leaves the world as it is. -/
def evQ (o : Oper) (e : Env) (w : World) (K : Env → Prop) : Prop :=
  match kindOf P o.op with
  | 0 => (match peel P (execOp (rho fx e) o) with
    | some (.value v) => put N fx o.dst v e K
    | _ => False)
  | 2 => (match o.op with
    | .load t x => (match rho fx e x with
      | .pointer (some a) => ld P t a w fun v => fit (zeroT P t) v fun v => put N fx o.dst v e K
      | _ => False)
    | _ => False)
  | 5 => rq P (semOf fx e o) w fun v => fit (tagOf P o) v fun v => put N fx o.dst v e K
  | 7 => (match o.op with
    | .nilCheck x => (match rho fx e x with
      | .pointer p => nn p fun a => put N fx o.dst (.pointer (some a)) e K
      | _ => False)
    | _ => False)
  | _ => False

/-- The same, in every world that meets S. -/
def evS (S : World → Prop) (o : Oper) (e : Env) (K : Env → Prop) : Prop :=
  match kindOf P o.op with
  | 0 => (match peel P (execOp (rho fx e) o) with
    | some (.value v) => put N fx o.dst v e K
    | _ => False)
  | 2 => (match o.op with
    | .load t x => (match rho fx e x with
      | .pointer (some a) => ∃ v, (∀ w, S w → (loadVar t a).run P w = .ok v w) ∧ fit (zeroT P t) v fun v => put N fx o.dst v e K
      | _ => False)
    | _ => False)
  | 5 => ∃ v, (∀ w, S w → (semOf fx e o).run P w = .ok v w) ∧ fit (tagOf P o) v fun v => put N fx o.dst v e K
  | 7 => (match o.op with
    | .nilCheck x => (match rho fx e x with
      | .pointer p => nn p fun a => put N fx o.dst (.pointer (some a)) e K
      | _ => False)
    | _ => False)
  | _ => False

def isCall (f : FuncId) : Bool :=
  match P.funcs[f]? with
  | some fn => fn.body.isSome && !(fn.name == "runtime.NumGoroutine")
  | none => false

/-- The entry of the model that hands its argument back. -/
def isSame (f : FuncId) : Bool :=
  match P.funcs[f]? with
  | some fn => fn.body.isNone && fn.name == sameName && fn.origin == ""
  | none => false

/-- An operation that may change the world. C: the functions that may be called. -/
def evL (C : Nat → Bool) (o : Oper) (e : Env) (w : World) (K : Env → World → Prop) : Prop :=
  match kindOf P o.op with
  | 1 => (match (execOp (rho fx e) o).run P w with
    | .ok (.value v) w' => put N fx o.dst v e fun e => K e w'
    | _ => False)
  | 3 => (match o.op with
    | .store t x y => (match rho fx e x with
      | .pointer (some a) => st P t a (rho fx e y) w fun w' => put N fx o.dst undef e fun e => K e w'
      | _ => False)
    | _ => False)
  | 4 => (match o.op with
    | .call { callee := .value (.func f), args, .. } => (match C f with
      | true => CallE P f (args.map (rho fx e)) w fun v w' => fit (zeroT P o.type) v fun v => put N fx o.dst v e fun e => K e w'
      | false => (match isSame P f with
        | true => (match args.toList with
          | [x] => put N fx o.dst (rho fx e x) e fun e => K e w
          | _ => False)
        | false => False))
    | _ => False)
  | 6 => rv P (semOf fx e o) w fun v w' => fit (tagOf P o) v fun v => put N fx o.dst v e fun e => K e w'
  | _ => False

def ready_ (o : Oper) (e : Env) : Bool := known fx e o.op.operands.toList && notSelect o.op

def evOp (C : Nat → Bool) (o : Oper) (e : Env) (w : World) (K : Env → World → Prop) : Prop :=
  match ready_ fx o e with
  | true => (match isQuiet P o.op with
    | true => evQ P N fx o e w fun e => K e w
    | false => evL P N fx C o e w K)
  | false => False

def guardK (ops : Array Oper) (o : Oper) (e : Env) (yes no : Env → Prop) : Prop :=
  match o.guard with
  | none => yes e
  | some (j, want) => match (ops[j]?).bind (·.dst) with
    | none => False
    | some t => match look2 fx e t with
      | some (.bool b) => (match want with
        | true => br b (yes ((t, .bool true) :: e)) (no ((t, .bool false) :: e))
        | false => br b (no ((t, .bool true) :: e)) (yes ((t, .bool false) :: e)))
      | some (.tuple _) => no e
      | _ => False

def evOps (C : Nat → Bool) (ops : Array Oper) : List Oper → Env → World → (Env → World → Prop) → Prop
  | [], e, w, K => K e w
  | o :: r, e, w, K => guardK fx ops o e (fun e => evOp P N fx C o e w fun e w => evOps C ops r e w K) (fun e => put N fx o.dst undef e fun e => evOps C ops r e w K)

def notLoad : Op → Bool
  | .load .. => false
  | _ => true

/-- q: loads may be taken first too. -/
def pickFirst (q : Bool) (ops : Array Oper) (listed : Array Bool) : List Nat → Option Nat
  | [] => none
  | i :: r => match ops[i]? with
    | none => pickFirst q ops listed r
    | some o => match isQuiet P o.op && ((q || notLoad o.op) && Region.free .any ops listed i) with
      | true => some i
      | false => pickFirst q ops listed r

def allOf (F : Nat → Prop) : List Nat → Prop
  | [] => True
  | [i] => F i
  | i :: r => F i ∧ allOf F r

def evAny (C : Nat → Bool) (ops : Array Oper) (S : World → Prop) (q : Bool) : Nat → Array Bool → Env → World → (Env → World → Prop) → Prop
  | 0, listed, e, w, K => (match Region.ready .any ops listed with
    | [] => K e w
    | _ => False)
  | fuel + 1, listed, e, w, K =>
    match Region.ready .any ops listed with
    | [] => K e w
    | i0 :: rs => match pickFirst P q ops listed (i0 :: rs) with
      | some i => (match ops[i]? with
        | none => False
        | some o => guardK fx ops o e
            (fun e => match ready_ fx o e with
              | true => evS P N fx S o e fun e => evAny C ops S q fuel (listed.setIfInBounds i true) e w K
              | false => False)
            (fun e => put N fx o.dst undef e fun e => evAny C ops S q fuel (listed.setIfInBounds i true) e w K))
      | none => allOf (fun i => match ops[i]? with
        | none => False
        | some o => guardK fx ops o e (fun e => evOp P N fx C o e w fun e w => S w ∧ evAny C ops S q fuel (listed.setIfInBounds i true) e w K)
            (fun e => put N fx o.dst undef e fun e => S w ∧ evAny C ops S q fuel (listed.setIfInBounds i true) e w K)) (i0 :: rs)

def firstLoud : List Oper → Nat
  | [] => 0
  | o :: r => match isQuiet P o.op with
    | true => firstLoud r + 1
    | false => 0

def headLen (l : List Oper) : Nat :=
  match Nat.blt (firstLoud P l) l.length with
  | true => firstLoud P l
  | false => l.length - 1

def drew (w : World) : World := { w with drawn := w.drawn + 1 }

def drawE (F : (World → Prop) → Prop) : Prop := ∃ S, F S

/- The state of a loop: the slots that are carried from round to round, by samples. -/
def TyOf : Value → Type
  | .int _ _ => Int
  | .bool _ => Bool
  | .pointer none => Option Addr
  | .pointer (some _) => Addr
  | .slice _ _ _ => Option Addr × Nat × Nat
  | .string _ => ByteArray
  | .agg _ => Array Value
  | _ => Value

def mkV : (t : Value) → TyOf t → Value
  | .int k _, x => .int k x
  | .bool _, x => .bool x
  | .pointer none, x => .pointer x
  | .pointer (some _), x => .pointer (some x)
  | .slice _ _ _, x => .slice x.1 x.2.1 x.2.2
  | .string _, x => .string x
  | .agg _, x => .agg x
  | .float _ _, x => x
  | .complex _ _ _, x => x
  | .map _, x => x
  | .chan _, x => x
  | .func _ _ _, x => x
  | .nilFunc, x => x
  | .iface _ _, x => x
  | .nilIface, x => x
  | .tuple _, x => x

def sameKind (k k' : IntKind) : Bool := decide (k = k')

def fitT : (t : Value) → Value → (TyOf t → Prop) → Prop
  | .int k _, v, F => (match v with
    | .int k' x => (match sameKind k' k with
      | true => F x
      | false => False)
    | _ => False)
  | .bool _, v, F => (match v with
    | .bool x => F x
    | _ => False)
  | .pointer none, v, F => (match v with
    | .pointer x => F x
    | _ => False)
  | .pointer (some _), v, F => (match v with
    | .pointer x => nn x F
    | _ => False)
  | .slice _ _ _, v, F => (match v with
    | .slice a n c => F (a, n, c)
    | _ => False)
  | .string _, v, F => (match v with
    | .string x => F x
    | _ => False)
  | .agg _, v, F => (match v with
    | .agg x => F x
    | _ => False)
  | .float _ _, v, F => F v
  | .complex _ _ _, v, F => F v
  | .map _, v, F => F v
  | .chan _, v, F => F v
  | .func _ _ _, v, F => F v
  | .nilFunc, v, F => F v
  | .iface _ _, v, F => F v
  | .nilIface, v, F => F v
  | .tuple _, v, F => F v

theorem nn_some {p : Option Addr} {K : Addr → Prop} (h : nn p K) : ∃ a, p = some a ∧ K a := by
  cases p with
  | none => exact h.elim
  | some a => exact ⟨a, rfl, h⟩

theorem fitT_some {t v : Value} {F : TyOf t → Prop} (h : fitT t v F) : ∃ x, v = mkV t x ∧ F x := by
  unfold fitT at h
  split at h
  · split at h
    · split at h
      · rename_i hk
        have hk' := of_decide_eq_true hk
        subst hk'
        exact ⟨_, rfl, h⟩
      · exact h.elim
    · exact h.elim
  · split at h
    · exact ⟨_, rfl, h⟩
    · exact h.elim
  · split at h
    · exact ⟨_, rfl, h⟩
    · exact h.elim
  · split at h
    · obtain ⟨a, rfl, ha⟩ := nn_some h
      exact ⟨_, rfl, ha⟩
    · exact h.elim
  · split at h
    · exact ⟨_, rfl, h⟩
    · exact h.elim
  · split at h
    · exact ⟨_, rfl, h⟩
    · exact h.elim
  · split at h
    · exact ⟨_, rfl, h⟩
    · exact h.elim
  all_goals exact ⟨_, rfl, h⟩

def Tup : Env → Type
  | [] => Unit
  | (_, t) :: r => TyOf t × Tup r

def embed : (L : Env) → Tup L → Env
  | [], _ => []
  | (k, t) :: r, s => (k, mkV t s.1) :: embed r s.2

def projE : (L : Env) → Env → (Tup L → Prop) → Prop
  | [], _, F => F ()
  | (k, t) :: r, e, F => match look2 fx e k with
    | none => False
    | some v => fitT t v fun x => projE r e fun s => F (x, s)

theorem projE_some {a : Act} : ∀ {L e : Env} {F : Tup L → Prop}, Knows N fx e a → projE fx L e F → ∃ s, (∀ t v, look (embed L s) t = some v → a.tmps.getD t undef = v) ∧ F s
  | [], e, F, ha, h => ⟨(), fun t v h => (by simp [embed, look] at h), h⟩
  | (k, t) :: r, e, F, ha, h => by
    unfold projE at h
    split at h
    · exact h.elim
    · rename_i v hv
      obtain ⟨x, hx, h'⟩ := fitT_some h
      obtain ⟨s, hs, hF⟩ := projE_some ha h'
      refine ⟨(x, s), fun t' v' hl => ?_, hF⟩
      replace hl : look ((k, mkV t x) :: embed r s) t' = some v' := hl
      rw [look_cons] at hl
      split at hl
      · rename_i hb
        have hb := Nat.eq_of_beq_eq_true hb
        subst hb
        cases hl
        rw [ha.at_ k v hv, hx]
      · exact hs t' v' hl

def keepE (e : Env) : List Nat → Env → (Env → Prop) → Prop
  | [], acc, F => F acc
  | t :: r, acc, F => match look2 fx e t with
    | some v => keepE e r ((t, v) :: acc) F
    | none => False

theorem keepE_some {a : Act} {e : Env} (ha : Knows N fx e a) : ∀ {l : List Nat} {acc : Env} {F : Env → Prop}, (∀ t v, look acc t = some v → a.tmps.getD t undef = v) → keepE fx e l acc F →
    ∃ g, (∀ t v, look g t = some v → a.tmps.getD t undef = v) ∧ F g
  | [], acc, F, hacc, h => ⟨acc, hacc, h⟩
  | t :: r, acc, F, hacc, h => by
    unfold keepE at h
    split at h
    · rename_i v hv
      refine keepE_some ha (fun t' v' hl => ?_) h
      rw [look_cons] at hl
      split at hl
      · rename_i hb
        have hb := Nat.eq_of_beq_eq_true hb
        subst hb
        cases hl
        exact ha.at_ t v hv
      · exact hacc t' v' hl
    · exact h.elim

theorem look_append {e g : Env} {t : Nat} : look (e ++ g) t = match look e t with | some v => some v | none => look g t := by
  induction e with
  | nil => rfl
  | cons p r ih =>
    obtain ⟨k, v⟩ := p
    rw [List.cons_append, look_cons, look_cons, ih]
    cases Nat.beq k t <;> rfl

/-- A loop: an invariant with a measure that each round lowers. -/
def LoopW {S : Type} (body : S → World → (S → World → Prop) → Prop) (s : S) (w : World) : Prop :=
  ∃ (I : Nat → S → World → Prop) (n : Nat), I n s w ∧ ∀ n s w, I n s w → body s w fun s' w' => ∃ m, m < n ∧ I m s' w'

theorem LoopW.nat {S : Type} {body : S → World → (S → World → Prop) → Prop} {s : S} {w : World} (n : Nat) (J : Nat → S → World → Prop) (h0 : J 0 s w)
    (hr : ∀ k s w next, k ≤ n → J k s w → (k < n → ∀ s' w', J (k + 1) s' w' → next s' w') → body s w next) : LoopW body s w := by
  refine ⟨fun m s w => ∃ k, k + m = n ∧ J k s w, n, ⟨0, by omega, h0⟩, ?_⟩
  rintro m s w ⟨k, hk, hJ⟩
  exact hr k s w _ (by omega) hJ fun hlt s' w' hJ' => ⟨m - 1, by omega, k + 1, by omega, hJ'⟩

def firstRegion : Code → Nat
  | .region i _ _ => i
  | .seq a _ => firstRegion a
  | .block _ c => firstRegion c
  | .loop c => firstRegion c
  | .cond _ a _ => firstRegion a
  | _ => 0

/-- A loop's slots: those that it carries, by samples; those that it leaves as they are. -/
abbrev Ann := List (Nat × Env × List Nat)

def annOf : Ann → Nat → Env
  | [], _ => []
  | (k, L) :: r, i => match Nat.beq k i with
    | true => L.1
    | false => annOf r i

def fixOf : Ann → Nat → List Nat
  | [], _ => []
  | (k, L) :: r, i => match Nat.beq k i with
    | true => L.2
    | false => fixOf r i

/-- A region whose loads are taken in every order: a mark among the notes on loops. -/
def byOrder (A : Ann) (id : Nat) : Bool :=
  match fixOf A (1000000 + id) with
  | [] => true
  | _ => false

abbrev KT := Exit → Env → World → Prop

def thenK (y : Env → World → Prop) (K : KT) : KT
  | .normal, e, w => y e w
  | .exit i, e, w => K (.exit i) e w
  | .ret, e, w => K .ret e w
  | _, _, _ => False

def blockK (id : Nat) (K : KT) : KT
  | .normal, e, w => K .normal e w
  | .exit i, e, w => (match Nat.beq i id with
    | true => K .normal e w
    | false => K (.exit i) e w)
  | .ret, e, w => K .ret e w
  | _, _, _ => False

def loopK (g : Env) (L : Env) (next : Tup L → World → Prop) (K : KT) : KT
  | .normal, e, w => projE (g ++ fx) L e fun s => next s w
  | .exit i, e, w => K (.exit i) (e ++ g) w
  | .ret, e, w => K .ret (e ++ g) w
  | _, _, _ => False

def shadow (c : Operand) (b : Bool) (e : Env) : Env :=
  match c with
  | .tmp t => (t, .bool b) :: e
  | _ => e

def ev (C : Nat → Bool) (A : Ann) : Env → Code → Env → World → KT → Prop
  | _, .skip, e, w, K => K .normal e w
  | _, .label _, e, w, K => K .normal e w
  | fx, .region _ ops false, e, w, K => evOps P N fx C ops ops.toList e w (K .normal)
  | fx, .region id ops true, e, w, K => (match Region.lexTailB .any ops (headLen P ops.toList) with
    | true => evOps P N fx C ops ops.toList e (drew w) (K .normal)
    | false => (match Region.noSelect ops with
      | true => drawE fun S => S (drew w) ∧ evAny P N fx C ops S (byOrder A id) ops.size (Array.replicate ops.size false) e (drew w) (K .normal)
      | false => False))
  | fx, .seq x y, e, w, K => ev C A fx x e w (thenK (fun e w => ev C A fx y e w K) K)
  | fx, .cond c x y, e, w, K => (match opv fx e c with
    | some (.bool b) => br b (ev C A fx x (shadow c true e) w K) (ev C A fx y (shadow c false e) w K)
    | _ => False)
  | fx, .block id c, e, w, K => ev C A fx c e w (blockK id K)
  | fx, .loop c, e, w, K => keepE fx e (fixOf A (firstRegion c)) [] fun g => projE fx (annOf A (firstRegion c)) e fun s =>
      LoopW (fun s w next => ev C A (g ++ fx) c (embed (annOf A (firstRegion c)) s) w (loopK fx g (annOf A (firstRegion c)) next K)) s w
  | _, .exit i, e, w, K => K (.exit i) e w
  | _, .ret, e, w, K => K .ret e w
  | _, _, _, _, _ => False

def resK : List ResultVar → Env → World → (List Value → Prop) → Prop
  | [], _, _, K => K []
  | .tmp t :: r, e, w, K => (match look e t with
    | some v => resK r e w fun vs => K (v :: vs)
    | none => False)
  | .cell a t :: r, e, w, K => (match look e a with
    | some (.pointer (some p)) => ld P t p w fun v => fit (zeroT P t) v fun v => resK r e w fun vs => K (v :: vs)
    | _ => False)

def tupV : List Value → Value
  | [v] => v
  | vs => .tuple vs.toArray

def KQ (rs : List ResultVar) (Q : Value → World → Prop) : KT
  | .normal, e, w => resK P rs e w fun vs => Q (tupV vs) w
  | .ret, e, w => resK P rs e w fun vs => Q (tupV vs) w
  | _, _, _ => False

def enumE : Nat → List Value → Env
  | _, [] => []
  | i, v :: r => (i, v) :: enumE (i + 1) r

end

/- That the conditions suffice. -/
section
variable {P : Program} {N : Nat} {fx : Env} {C : Nat → Bool}

theorem getElem?_of_getD {xs : Array Value} {t : Nat} {b : Bool} (h : xs.getD t undef = .bool b) : xs[t]? = some (.bool b) := by
  rw [Array.getD_eq_getD_getElem?] at h
  cases hx : xs[t]? with
  | none => rw [hx] at h; simp [undef] at h
  | some v => rw [hx] at h; simpa using h

theorem guardK_sound {ops : Array Oper} {o : Oper} {e : Env} {yes no : Env → Prop} {a : Act} (ha : Knows N fx e a) (h : guardK fx ops o e yes no) :
    (Region.wanted o (yielded ops a.tmps) = true ∧ ∃ e', Knows N fx e' a ∧ yes e') ∨ (Region.wanted o (yielded ops a.tmps) = false ∧ ∃ e', Knows N fx e' a ∧ no e') := by
  unfold guardK at h
  split at h
  · rename_i hg
    exact .inl ⟨by simp [Region.wanted, hg], e, ha, h⟩
  · rename_i j want hg
    split at h
    · exact h.elim
    · rename_i t ht
      split at h
      · rename_i b hb
        have hv := ha.at_ _ _ hb
        have hy : yielded ops a.tmps j = some b := by simp [yielded, ht, getElem?_of_getD hv]
        cases b <;> cases want <;> simp only [br] at h
        · exact .inl ⟨by simp [Region.wanted, hg, hy], _, ha.cons hv, h⟩
        · exact .inr ⟨by simp [Region.wanted, hg, hy], _, ha.cons hv, h⟩
        · exact .inr ⟨by simp [Region.wanted, hg, hy], _, ha.cons hv, h⟩
        · exact .inl ⟨by simp [Region.wanted, hg, hy], _, ha.cons hv, h⟩
      · rename_i vs hb
        have hv := ha.at_ _ _ hb
        refine .inr ⟨?_, e, ha, h⟩
        have hy : yielded ops a.tmps j = none := by
          simp only [yielded, ht, Option.bind_some]
          rw [Array.getD_eq_getD_getElem?] at hv
          cases hx : a.tmps[t]? with
          | none => rfl
          | some v => rw [hx] at hv; simp at hv; subst hv; rfl
        simp [Region.wanted, hg, hy]
      · exact h.elim

theorem ready_exec {o : Oper} {e : Env} {a : Act} (ha : Knows N fx e a) (hr : ready_ fx o e = true) : execOp a.eval o = execOp (rho fx e) o := by
  simp only [ready_, Bool.and_eq_true] at hr
  exact ha.exec hr.1 hr.2

theorem run_load {e : Env} {o : Oper} {t : TypeId} {x : Operand} {a : Addr} {v : Value} {w w' : World} (ho : o.op = .load t x) (hx : rho fx e x = .pointer (some a))
    (h : (loadVar t a).run P w = .ok v w') : (execOp (rho fx e) o).run P w = .ok (.value v) w' := by
  unfold execOp
  simp only [ho, hx, Instr.loadAt, Instr.sureAddr]
  show Sem.run P ((loadVar t a) >>= fun x => (pure (Next.value x) : Sem Next)) w = _
  rw [Sem.run_bind, h]; rfl

theorem run_store {e : Env} {o : Oper} {t : TypeId} {x y : Operand} {a : Addr} {w w' : World} (ho : o.op = .store t x y) (hx : rho fx e x = .pointer (some a))
    (h : (storeVar t a (rho fx e y)).run P w = .ok () w') : (execOp (rho fx e) o).run P w = .ok .skip w' := by
  unfold execOp
  simp only [ho, hx, Instr.storeAt, Instr.sureAddr]
  show Sem.run P ((storeVar t a (rho fx e y)) >>= fun _ => (pure Next.skip : Sem Next)) w = _
  rw [Sem.run_bind, h]; rfl

theorem run_nilCheck {e : Env} {o : Oper} {x : Operand} {a : Addr} {w : World} (ho : o.op = .nilCheck x) (hx : rho fx e x = .pointer (some a)) :
    (execOp (rho fx e) o).run P w = .ok (.value (.pointer (some a))) w := by
  unfold execOp
  simp only [ho, hx]
  rfl

theorem evQ_sound {o : Oper} {e : Env} {w : World} {K : Env → Prop} {a : Act} (ha : Knows N fx e a) (hr : ready_ fx o e = true) (h : evQ P N fx o e w K) :
    ∃ v, (execOp a.eval o).run P w = .ok (.value v) w ∧ ∃ e', Knows N fx e' (a.put o.dst v) ∧ K e' := by
  rw [ready_exec ha hr]
  unfold evQ at h
  split at h
  · split at h
    · rename_i v hv
      exact ⟨v, run_of_peel hv w, put_knows ha h⟩
    · exact h.elim
  · split at h
    · rename_i t x ho
      split at h
      · rename_i p hx
        obtain ⟨v, hv, h⟩ := h
        exact ⟨v, run_load ho hx hv, put_knows ha (fit_of h)⟩
      · exact h.elim
    · exact h.elim
  · obtain ⟨v, hv, h⟩ := h
    exact ⟨v, semOf_run hv, put_knows ha (fit_of h)⟩
  · split at h
    · rename_i x ho
      split at h
      · rename_i p hx
        obtain ⟨b, rfl, h⟩ := nn_some h
        exact ⟨_, run_nilCheck ho hx, put_knows ha h⟩
      · exact h.elim
    · exact h.elim
  · exact h.elim

theorem evS_sound {S : World → Prop} {o : Oper} {e : Env} {K : Env → Prop} {a : Act} (ha : Knows N fx e a) (hr : ready_ fx o e = true) (h : evS P N fx S o e K) :
    ∃ v, (∀ w, S w → (execOp a.eval o).run P w = .ok (.value v) w) ∧ ∃ e', Knows N fx e' (a.put o.dst v) ∧ K e' := by
  rw [ready_exec ha hr]
  unfold evS at h
  split at h
  · split at h
    · rename_i v hv
      exact ⟨v, fun w _ => run_of_peel hv w, put_knows ha h⟩
    · exact h.elim
  · split at h
    · rename_i t x ho
      split at h
      · rename_i p hx
        obtain ⟨v, hv, h⟩ := h
        exact ⟨v, fun w hw => run_load ho hx (hv w hw), put_knows ha (fit_of h)⟩
      · exact h.elim
    · exact h.elim
  · obtain ⟨v, hv, h⟩ := h
    exact ⟨v, fun w hw => semOf_run (hv w hw), put_knows ha (fit_of h)⟩
  · split at h
    · rename_i x ho
      split at h
      · rename_i p hx
        obtain ⟨b, rfl, h⟩ := nn_some h
        exact ⟨_, fun w _ => run_nilCheck ho hx, put_knows ha h⟩
      · exact h.elim
    · exact h.elim
  · exact h.elim

theorem run_call {e : Env} {o : Oper} {f : FuncId} {args : Array Operand} {tys : Array TypeId} {w : World} (ho : o.op = .call { callee := .value (.func f), args := args, argTypes := tys })
    (hc : isCall P f = true) : (execOp (rho fx e) o).run P w = .ok (.enter f (args.map (rho fx e))) w := by
  unfold isCall at hc
  split at hc
  · rename_i fn hfn
    simp only [Bool.and_eq_true, Bool.not_eq_true'] at hc
    have hb : fn.body.isNone = false := by
      cases hbb : fn.body with
      | none => rw [hbb] at hc; simp at hc
      | some c => rfl
    unfold execOp
    simp only [ho, resolve, rho, opv, Deferred.ofValue]
    simp only [Bind.bind, pure, Sem.bind, invoke, callFunc, program, Array.append_empty]
    simp only [Sem.run, hfn, hc.2, hb, Bool.false_eq_true, if_false, Array.empty_append]
  · cases hc

theorem run_same {e : Env} {o : Oper} {f : FuncId} {args : Array Operand} {tys : Array TypeId} {w : World} {x : Operand} (ho : o.op = .call { callee := .value (.func f), args := args, argTypes := tys })
    (hc : isSame P f = true) (hx : args.toList = [x]) : (execOp (rho fx e) o).run P w = .ok (.value (rho fx e x)) w := by
  unfold isSame at hc
  split at hc
  · rename_i fn hfn
    simp only [Bool.and_eq_true, beq_iff_eq] at hc
    obtain ⟨⟨hb, hn⟩, ho'⟩ := hc
    have hargs : args = #[x] := by cases args; simp_all
    have h1 : Extern.findNext fn = none := by
      unfold Extern.findNext
      simp only [hn, ho', next_none, next_empty, Option.map_none]
      rfl
    have h2 : Extern.find fn = some Extern.AbiNoEscape.same := by
      unfold Extern.find
      simp only [hn, generic_none, typed_none, rows_same, Option.map_none]
      rfl
    have h3 : (fn.name == "runtime.NumGoroutine") = false := by rw [hn]; kernel_rfl
    subst hargs
    unfold execOp
    simp only [ho, resolve, rho, opv, Deferred.ofValue]
    simp only [Bind.bind, pure, Sem.bind, invoke, callFunc, program, Array.append_empty]
    simp only [Sem.run, hfn, h3, hb, Bool.false_eq_true, if_false, if_true, Array.empty_append, mark, Sem.bind, h1, h2]
    rw [show Array.map (rho fx e) #[x] = #[rho fx e x] by simp]
    rfl
  · cases hc

theorem evL_sound (hC : ∀ f, C f = true → isCall P f = true) {o : Oper} {e : Env} {w : World} {K : Env → World → Prop} {Q : Exit → Act → World → Prop} {a : Act}
    (ha : Knows N fx e a) (hr : ready_ fx o e = true) (h : evL P N fx C o e w K) :
    o.wp P a w (fun a' w' => ∃ e', Knows N fx e' a' ∧ K e' w') Q := by
  unfold Oper.wp
  rw [ready_exec ha hr]
  unfold evL at h
  split at h
  · split at h
    · rename_i v w' hv
      rw [hv]
      exact put_knows ha h
    · exact h.elim
  · split at h
    · rename_i t x y ho
      split at h
      · rename_i p hx
        obtain ⟨w', hv, h⟩ := h
        rw [run_store ho hx hv]
        exact put_knows ha h
      · exact h.elim
    · exact h.elim
  · split at h
    · rename_i f args tys ho
      split at h
      · rename_i hcf
        rw [run_call ho (hC f hcf)]
        refine Calls.mono h fun en w' hen => ?_
        obtain ⟨v, rfl, hv⟩ := hen
        exact put_knows ha (fit_of hv)
      · split at h
        · rename_i hsame
          split at h
          · rename_i x hx
            rw [run_same ho hsame hx]
            exact put_knows ha h
          · exact h.elim
        · exact h.elim
    · exact h.elim
  · obtain ⟨v, w', hv, h⟩ := h
    rw [semOf_run hv]
    exact put_knows ha (fit_of h)
  · exact h.elim

theorem evOp_sound (hC : ∀ f, C f = true → isCall P f = true) {o : Oper} {e : Env} {w : World} {K : Env → World → Prop} {Q : Exit → Act → World → Prop} {a : Act}
    (ha : Knows N fx e a) (h : evOp P N fx C o e w K) : o.wp P a w (fun a' w' => ∃ e', Knows N fx e' a' ∧ K e' w') Q := by
  unfold evOp at h
  split at h
  · rename_i hr
    split at h
    · obtain ⟨v, hv, h⟩ := evQ_sound ha hr h
      unfold Oper.wp
      rw [hv]
      exact h
    · exact evL_sound hC ha hr h
  · exact h.elim

theorem evOps_sound (hC : ∀ f, C f = true → isCall P f = true) {ops : Array Oper} {K : Env → World → Prop} {Q : Exit → Act → World → Prop}
    (hQ : ∀ e a w, Knows N fx e a → K e w → Q .normal a w) : ∀ (l : List Oper) (e : Env) (w : World) (a : Act), Knows N fx e a → evOps P N fx C ops l e w K → wpList P ops Q l a w
  | [], e, w, a, ha, h => hQ e a w ha h
  | o :: r, e, w, a, ha, h => by
    unfold evOps at h
    unfold wpList
    rcases guardK_sound ha h with ⟨hw, e', ha', h'⟩ | ⟨hw, e', ha', h'⟩
    · rw [if_pos hw]
      refine .inl (Oper.wp_mono ?_ (evOp_sound hC ha' h'))
      rintro a1 w1 ⟨e1, ha1, h1⟩
      exact evOps_sound hC hQ r e1 w1 a1 ha1 h1
    · rw [if_neg (by simp [hw])]
      obtain ⟨e1, ha1, h1⟩ := put_knows ha' h'
      exact evOps_sound hC hQ r e1 w _ ha1 h1

theorem evOps_still (hC : ∀ f, C f = true → isCall P f = true) {ops : Array Oper} {K : Env → World → Prop} {Q : Exit → Act → World → Prop}
    (hQ : ∀ e a w, Knows N fx e a → K e w → Q .normal a w) : ∀ (l : List Oper) (n : Nat) (e : Env) (w : World) (a : Act), n ≤ firstLoud P l → Knows N fx e a → evOps P N fx C ops l e w K →
      wpStill P ops w (fun a' => wpList P ops Q (l.drop n) a' w) (l.take n) a
  | l, 0, e, w, a, _, ha, h => by
    simp only [List.drop_zero, List.take_zero]
    exact evOps_sound hC hQ l e w a ha h
  | [], n + 1, e, w, a, hn, ha, h => by simp [firstLoud] at hn
  | o :: r, n + 1, e, w, a, hn, ha, h => by
    unfold firstLoud at hn
    split at hn
    · rename_i hq
      unfold evOps at h
      simp only [List.drop_succ_cons, List.take_succ_cons]
      unfold wpStill
      rcases guardK_sound ha h with ⟨hw, e', ha', h'⟩ | ⟨hw, e', ha', h'⟩
      · rw [if_pos hw]
        unfold evOp at h'
        split at h'
        · rename_i hr
          rw [hq] at h'
          obtain ⟨v, hv, e1, ha1, h1⟩ := evQ_sound ha' hr h'
          unfold Oper.still
          rw [hv]
          exact ⟨rfl, evOps_still hC hQ r n e1 w _ (by omega) ha1 h1⟩
        · exact h'.elim
      · rw [if_neg (by simp [hw])]
        obtain ⟨e1, ha1, h1⟩ := put_knows ha' h'
        exact evOps_still hC hQ r n e1 w _ (by omega) ha1 h1
    · omega

theorem allOf_mem {F : Nat → Prop} : ∀ {l : List Nat}, allOf F l → ∀ i ∈ l, F i
  | [], _, i, hi => by cases hi
  | [j], h, i, hi => by
    have : i = j := by simpa using hi
    subst this; exact h
  | j :: k :: r, h, i, hi => by
    obtain ⟨h1, h2⟩ := h
    cases hi with
    | head => exact h1
    | tail _ hm => exact allOf_mem h2 i hm

theorem pickFirst_spec {q : Bool} {ops : Array Oper} {listed : Array Bool} : ∀ {l : List Nat} {i : Nat}, pickFirst P q ops listed l = some i →
    i ∈ l ∧ ∃ o, ops[i]? = some o ∧ isQuiet P o.op = true ∧ Region.free .any ops listed i = true
  | [], i, h => by simp [pickFirst] at h
  | j :: r, i, h => by
    unfold pickFirst at h
    split at h
    · obtain ⟨h1, h2⟩ := pickFirst_spec h
      exact ⟨.tail _ h1, h2⟩
    · rename_i o ho
      split at h
      · rename_i hb
        cases h
        simp only [Bool.and_eq_true] at hb
        exact ⟨.head _, o, ho, hb.1, hb.2.2⟩
      · obtain ⟨h1, h2⟩ := pickFirst_spec h
        exact ⟨.tail _ h1, h2⟩

theorem evAny_sound {q : Bool} (hC : ∀ f, C f = true → isCall P f = true) {ops : Array Oper} {S : World → Prop} {K : Env → World → Prop} {Q : Exit → Act → World → Prop}
    (hns : Region.noSelect ops = true) (hp : ∀ c a w, ¬ Q (.panic c) a w) (hQ : ∀ e a w, Knows N fx e a → K e w → Q .normal a w) :
    ∀ (fuel : Nat) (listed : Array Bool) (e : Env) (w : World) (a : Act), Knows N fx e a → S w → evAny P N fx C ops S q fuel listed e w K → wpAnyH P .any ops Q S fuel listed a w := by
  intro fuel
  induction fuel with
  | zero =>
    intro listed e w a ha hS h
    unfold evAny at h
    split at h
    · rename_i hr
      exact wpAnyH_done hr (hQ e a w ha h) 0
    · exact h.elim
  | succ fuel ih =>
    intro listed e w a ha hS h
    unfold evAny at h
    split at h
    · rename_i hr
      exact wpAnyH_done hr (hQ e a w ha h) _
    · rename_i i0 rs hr
      split at h
      · rename_i i hi
        obtain ⟨hm, o, ho, hq, hf⟩ := pickFirst_spec hi
        rw [ho] at h
        have hrc : (Region.ready .any ops listed).contains i = true := by rw [hr]; simpa using hm
        rcases guardK_sound ha h with ⟨hw, e', ha', h'⟩ | ⟨hw, e', ha', h'⟩
        · split at h'
          · rename_i hrd
            obtain ⟨v, hv, e1, ha1, h1⟩ := evS_sound ha' hrd h'
            exact wpAnyH_take ho hns hf hrc (fun c a w hh => (hp _ _ _ hh).elim) (.inl ⟨hw, hv⟩) hS (ih _ _ _ _ ha1 hS h1)
          · exact h'.elim
        · obtain ⟨e1, ha1, h1⟩ := put_knows ha' h'
          exact wpAnyH_take ho hns hf hrc (fun c a w hh => (hp _ _ _ hh).elim) (.inr ⟨hw, rfl⟩) hS (ih _ _ _ _ ha1 hS h1)
      · refine wpAnyH_all hr (by simp) fun i hi => ?_
        have h' := allOf_mem h i hi
        unfold wpOp
        split at h'
        · exact h'.elim
        · rename_i o ho
          rw [ho]
          dsimp only
          rcases guardK_sound ha h' with ⟨hw, e', ha', h'⟩ | ⟨hw, e', ha', h'⟩
          · rw [if_pos hw]
            refine .inl (Oper.wp_mono ?_ (evOp_sound hC ha' h'))
            rintro a1 w1 ⟨e1, ha1, hS1, h1⟩
            exact ⟨hS1, ih _ _ _ _ ha1 hS1 h1⟩
          · rw [if_neg (by simp [hw])]
            obtain ⟨e1, ha1, hS1, h1⟩ := put_knows ha' h'
            exact ⟨hS1, ih _ _ _ _ ha1 hS1 h1⟩

def liftK (N : Nat) (fx : Env) (K : KT) : Exit → Act → World → Prop := fun ex a w => (∀ c, ex ≠ .panic c) ∧ ∃ e, Knows N fx e a ∧ K ex e w

theorem headLen_le {l : List Oper} (h : headLen P l < l.length) : headLen P l ≤ firstLoud P l := by
  unfold headLen at *
  split
  · exact Nat.le_refl _
  · rename_i hb
    have : ¬ (firstLoud P l < l.length) := by
      intro hc
      rw [show Nat.blt (firstLoud P l) l.length = true from Nat.ble_eq_true_of_le hc] at hb
      cases hb
    omega

theorem ev_sound (hm : P.follows .mixedOrders = true) (hC : ∀ f, C f = true → isCall P f = true) {A : Ann} :
    ∀ (c : Code) (fx e : Env) (w : World) (K : KT) (a : Act), Knows N fx e a → ev P N C A fx c e w K → c.wp P (liftK N fx K) a w := by
  intro c
  induction c with
  | skip => intro fx e w K a ha h; exact wp_skip ⟨by simp, e, ha, h⟩
  | label l => intro fx e w K a ha h; exact wp_label ⟨by simp, e, ha, h⟩
  | exit i => intro fx e w K a ha h; exact wp_exit ⟨by simp, e, ha, h⟩
  | ret => intro fx e w K a ha h; exact wp_ret ⟨by simp, e, ha, h⟩
  | goto l => intro fx e w K a ha h; exact h.elim
  | refuse y => intro fx e w K a ha h; exact h.elim
  | scope c _ => intro fx e w K a ha h; exact h.elim
  | rangeFunc f ps x y _ _ => intro fx e w K a ha h; exact h.elim
  | region id ops draw =>
    intro fx e w K a ha h
    cases draw with
    | false =>
      exact wp_region_list (evOps_sound hC (Q := liftK N fx K) (fun e a w ha h => ⟨by simp, e, ha, h⟩) _ e w a ha h)
    | true =>
      unfold ev at h
      split at h
      · rename_i hB
        have hlt : headLen P ops.toList < ops.toList.length := by
          simp only [Region.lexTailB, Bool.and_eq_true, decide_eq_true_eq] at hB
          simpa using hB.1.1.1.2
        have := evOps_still hC (Q := liftK N fx K) (fun e a w ha h => ⟨by simp, e, ha, h⟩) ops.toList (headLen P ops.toList) e (drew w) a (headLen_le hlt) ha h
        have h2 := wp_region_still_tail (P := P) (id := id) (Q := liftK N fx K) (a := a) (w := w) (l := ops.toList) (headLen P ops.toList) hm (by simpa using hB) (by simpa [drew] using this)
        simpa using h2
      · split at h
        case h_2 => exact h.elim
        rename_i hns
        obtain ⟨S, hS, h⟩ := h
        exact wp_region_held hm (evAny_sound hC hns (Q := liftK N fx K) (fun c a w hh => hh.1 c rfl) (fun e a w ha h => ⟨by simp, e, ha, h⟩) _ _ e (drew w) a ha hS h)
  | seq x y ihx ihy =>
    intro fx e w K a ha h
    refine wp_seq (wp_mono (ihx fx e w _ a ha h) ?_)
    rintro ex a1 w1 ⟨hne, e1, ha1, h1⟩
    cases ex with
    | normal => exact ihy fx e1 w1 K a1 ha1 h1
    | exit i => exact ⟨hne, e1, ha1, h1⟩
    | ret => exact ⟨hne, e1, ha1, h1⟩
    | goto l => exact h1.elim
    | panic c => exact h1.elim
    | outgrown => exact h1.elim
  | cond c x y ihx ihy =>
    intro fx e w K a ha h
    unfold ev at h
    split at h
    · rename_i b hb
      have hev := ha.eval hb
      cases b with
      | true =>
        refine wp_cond_true hev (ihx fx _ w K a ?_ h)
        cases c <;> first | exact ha.cons hev | exact ha
      | false =>
        refine wp_cond_false hev (ihy fx _ w K a ?_ h)
        cases c <;> first | exact ha.cons hev | exact ha
    · exact h.elim
  | block id c ih =>
    intro fx e w K a ha h
    refine wp_block (wp_mono (ih fx e w _ a ha h) ?_)
    rintro ex a1 w1 ⟨hne, e1, ha1, h1⟩
    cases ex with
    | normal => exact ⟨hne, e1, ha1, h1⟩
    | exit i =>
      simp only [blockK] at h1
      simp only [Exit.inBlock]
      split at h1
      · rename_i hb
        rw [if_pos (Nat.eq_of_beq_eq_true hb)]
        exact ⟨by simp, e1, ha1, h1⟩
      · rename_i hb
        rw [if_neg (fun hc => by subst hc; rw [Nat.beq_refl] at hb; cases hb)]
        exact ⟨hne, e1, ha1, h1⟩
    | ret => exact ⟨hne, e1, ha1, h1⟩
    | goto l => exact h1.elim
    | panic c => exact h1.elim
    | outgrown => exact h1.elim
  | loop c ih =>
    intro fx e w K a ha h
    unfold ev at h
    obtain ⟨g, hg, h⟩ := keepE_some N fx ha (fun t v hl => (by simp [look] at hl)) h
    obtain ⟨s, hs, I, n0, hI, hround⟩ := projE_some N fx ha h
    have hmk : ∀ (s : Tup (annOf A (firstRegion c))) (a' : Act), N ≤ a'.tmps.size → a'.defers = [] → (∀ t v, look (g ++ fx) t = some v → a'.tmps.getD t undef = v) →
        (∀ t v, look (embed (annOf A (firstRegion c)) s) t = some v → a'.tmps.getD t undef = v) → Knows N (g ++ fx) (embed (annOf A (firstRegion c)) s) a' := by
      intro s a' h1 h2 h3 h4
      refine ⟨h1, h2, fun t v hl => ?_, h3⟩
      unfold look2 at hl
      split at hl
      · rename_i u hu
        cases hl
        exact h4 t _ hu
      · exact h3 t v hl
    have hgf : ∀ t v, look (g ++ fx) t = some v → a.tmps.getD t undef = v := by
      intro t v hl
      rw [look_append] at hl
      split at hl
      · rename_i u hu
        cases hl
        exact hg t _ hu
      · exact ha.fix t v hl
    have hout : ∀ (e1 : Env) (a1 : Act), Knows N (g ++ fx) e1 a1 → Knows N fx (e1 ++ g) a1 := by
      intro e1 a1 h1
      refine ⟨h1.size, h1.defers, fun t v hl => h1.at_ t v ?_, fun t v hl => ?_⟩
      · unfold look2 at hl ⊢
        rw [look_append] at hl ⊢
        cases he : look e1 t with
        | some u => rw [he] at hl; exact hl
        | none =>
          rw [he] at hl
          cases hgt : look g t with
          | some u => rw [hgt] at hl; exact hl
          | none => rw [hgt] at hl; exact hl
      · cases hgt : look g t with
        | none => exact h1.fix t v (by rw [look_append, hgt]; exact hl)
        | some u =>
          have hu := h1.fix t u (by rw [look_append, hgt])
          have hva : a.tmps.getD t undef = v := ha.fix t v hl
          have hua : a.tmps.getD t undef = u := hg t u hgt
          rw [hu, ← hua, hva]
    have key : ∀ n m s w a, m < n → Knows N (g ++ fx) (embed (annOf A (firstRegion c)) s) a → I m s w → Code.rounds P c (liftK N fx K) n a w := by
      intro n
      induction n with
      | zero => intro m s w a hn; omega
      | succ n ihn =>
        intro m s w a hn ha hI
        rw [rounds_succ]
        refine wp_mono (ih _ _ w _ a ha (hround m s w hI)) ?_
        rintro ex a1 w1 ⟨hne, e1, ha1, h1⟩
        cases ex with
        | normal =>
          obtain ⟨s1, hs1, m1, hlt, hI1⟩ := projE_some N _ ha1 h1
          exact ihn m1 s1 w1 a1 (by omega) (hmk s1 a1 ha1.size ha1.defers ha1.fix hs1) hI1
        | exit i => exact ⟨hne, _, hout _ _ ha1, h1⟩
        | ret => exact ⟨hne, _, hout _ _ ha1, h1⟩
        | goto l => exact h1.elim
        | panic c => exact h1.elim
        | outgrown => exact h1.elim
    exact wp_loop_rounds (n0 + 1) (key _ n0 s w a (by omega) (hmk s a ha.size ha.defers hgf hs) hI)

theorem enumE_look : ∀ (l : List Value) (i t : Nat) (v : Value), look (enumE i l) t = some v → i ≤ t ∧ l[t - i]? = some v
  | [], i, t, v, h => by simp [enumE, look] at h
  | x :: r, i, t, v, h => by
    unfold enumE look at h
    split at h
    · rename_i hb
      have := Nat.eq_of_beq_eq_true hb
      subst this
      simpa using h
    · obtain ⟨h1, h2⟩ := enumE_look r (i + 1) t v h
      refine ⟨by omega, ?_⟩
      have : t - i = (t - (i + 1)) + 1 := by omega
      rw [this]
      simpa using h2

def resOne (tmps : Array Value) : ResultVar → Sem Value
  | .tmp t => pure (tmps.getD t undef)
  | .cell p t => do loadVar t (← asAddr (tmps.getD p undef))

def resAll (tmps : Array Value) : List ResultVar → Sem (List Value)
  | [] => pure []
  | r :: rs => do let v ← resOne tmps r; let vs ← resAll tmps rs; pure (v :: vs)

theorem mapM_resAll (tmps : Array Value) : ∀ (rs : List ResultVar), rs.mapM (resOne tmps) = resAll tmps rs
  | [] => rfl
  | r :: rs => by rw [List.mapM_cons, mapM_resAll tmps rs]; rfl

theorem look_look2 {fx e : Env} {t : Nat} {v : Value} (h : look e t = some v) : look2 fx e t = some v := by
  unfold look2; rw [h]

theorem resAll_sound {a : Act} {e : Env} {w : World} (ha : Knows N [] e a) : ∀ (rs : List ResultVar) (K : List Value → Prop), resK P rs e w K →
    ∃ vs, K vs ∧ (resAll a.tmps rs).run P w = .ok vs w
  | [], K, h => ⟨[], h, rfl⟩
  | .tmp t :: r, K, h => by
    unfold resK at h
    split at h
    · rename_i v hv
      obtain ⟨vs, hK, hr⟩ := resAll_sound ha r _ h
      refine ⟨v :: vs, hK, ?_⟩
      simp only [resAll, resOne, ha.at_ t v (look_look2 hv), Sem.run_bind, Sem.run_pure, Result.andThen, hr]
    · exact h.elim
  | .cell p t :: r, K, h => by
    unfold resK at h
    split at h
    · rename_i q hq
      obtain ⟨v, hv, h⟩ := h
      obtain ⟨vs, hK, hr⟩ := resAll_sound ha r _ (fit_of h)
      refine ⟨v :: vs, hK, ?_⟩
      simp only [resAll, resOne, ha.at_ p _ (look_look2 hq), asAddr, Sem.run_bind, Sem.run_pure, Result.andThen, hv, hr]
    · exact h.elim

theorem results_sound {fn : Func} {tmps : Array Value} {w : World} {vs : List Value} (h : (resAll tmps fn.results.toList).run P w = .ok vs w) :
    (results fn tmps).run P w = .ok (tupV vs) w := by
  have hres : results fn tmps = (do let vs ← fn.results.mapM (resOne tmps); pure (if h : vs.size = 1 then vs[0] else .tuple vs)) := by
    unfold results
    congr 1
  rw [hres, Array.mapM_eq_mapM_toList, mapM_resAll]
  simp only [Sem.run_bind, map_eq_pure_bind, h, Result.andThen, Sem.run_pure, Result.ok.injEq, and_true]
  match vs with
  | [] => rfl
  | [v] => rfl
  | a :: b :: r => simp [tupV]

/-- The body's condition suffices for the call. -/
theorem calls_of_ev (hm : P.follows .mixedOrders = true) (hC : ∀ f, C f = true → isCall P f = true) {f : FuncId} {fn : Func} {c : Code} {A : Ann} {args : List Value} {w : World}
    {Q : Value → World → Prop} (hf : P.funcs[f]? = some fn) (hb : fn.body = some c)
    (h : ev P fn.ntmps C A [] c (enumE 0 args) w (KQ P fn.results.toList Q)) : CallE P f args.toArray w Q := by
  refine calls_of_wp hf hb ?_
  have hk : Knows fn.ntmps [] (enumE 0 args) { tmps := args.toArray ++ Array.replicate (fn.ntmps - args.toArray.size) undef, defers := [] } := by
    refine ⟨by simp; omega, rfl, fun t v hl => ?_, fun t v hl => (by simp [look] at hl)⟩
    have hl : look (enumE 0 args) t = some v := by
      unfold look2 at hl
      split at hl
      · rename_i u hu
        rw [hu]; exact hl
      · simp [look] at hl
    obtain ⟨_, h2⟩ := enumE_look args 0 t v hl
    have hlt : t < args.length := by
      rcases Nat.lt_or_ge t args.length with hh | hh
      · exact hh
      · simp [List.getElem?_eq_none hh] at h2
    simp only [Nat.sub_zero] at h2
    rw [Array.getD_eq_getD_getElem?, Array.getElem?_append_left (by simpa using hlt)]
    simp [h2]
  refine wp_mono (ev_sound hm hC c _ _ w _ _ hk h) ?_
  rintro ex a w1 ⟨_, e, ha, hK⟩
  cases ex with
  | normal =>
    obtain ⟨vs, hQ, hr⟩ := resAll_sound ha _ _ hK
    exact ⟨ha.defers, _, results_sound hr, _, rfl, hQ⟩
  | ret =>
    obtain ⟨vs, hQ, hr⟩ := resAll_sound ha _ _ hK
    exact ⟨ha.defers, _, results_sound hr, _, rfl, hQ⟩
  | exit i => exact hK.elim
  | goto l => exact hK.elim
  | panic c => exact hK.elim
  | outgrown => exact hK.elim

end
/- Short words for what the conditions say. -/
def fI (k : IntKind) (v : Value) (K : Int → Prop) : Prop := ∃ x : Int, v = .int k x ∧ K x
def fB (v : Value) (K : Bool → Prop) : Prop := ∃ x : Bool, v = .bool x ∧ K x
def fP (v : Value) (K : Option Addr → Prop) : Prop := ∃ x : Option Addr, v = .pointer x ∧ K x
def fA (v : Value) (K : Addr → Prop) : Prop := ∃ x : Addr, v = .pointer (some x) ∧ K x
def fS (v : Value) (K : Option Addr → Nat → Nat → Prop) : Prop := ∃ (a : Option Addr) (n c : Nat), v = .slice a n c ∧ K a n c
def fT (v : Value) (K : ByteArray → Prop) : Prop := ∃ x : ByteArray, v = .string x ∧ K x
def fG (v : Value) (K : Array Value → Prop) : Prop := ∃ x : Array Value, v = .agg x ∧ K x
def fV (v : Value) (K : Value → Prop) : Prop := ∃ x : Value, v = x ∧ K x
def al (t : TypeId) (cs : Array Value) (w : World) (K : Addr → World → Prop) : Prop := K ⟨w.heap.size, 0, none⟩ { w with heap := w.heap.push (.cells cs t) }
def dr (w : World) (K : World → Prop) : Prop := K (drew w)
def ldS (P : Program) (S : World → Prop) (t : TypeId) (a : Addr) (K : Value → Prop) : Prop := ∃ v, (∀ w, S w → (loadVar t a).run P w = .ok v w) ∧ K v
def rqS (P : Program) (S : World → Prop) (s : Sem Value) (K : Value → Prop) : Prop := ∃ v, (∀ w, S w → s.run P w = .ok v w) ∧ K v
def band (k : IntKind) (a b : Int) : Int := k.wrap ((BitVec.ofInt k.bits a &&& BitVec.ofInt k.bits b).toNat)
def bor (k : IntKind) (a b : Int) : Int := k.wrap ((BitVec.ofInt k.bits a ||| BitVec.ofInt k.bits b).toNat)
def bxor (k : IntKind) (a b : Int) : Int := k.wrap ((BitVec.ofInt k.bits a ^^^ BitVec.ofInt k.bits b).toNat)
def bandNot (k : IntKind) (a b : Int) : Int := k.wrap ((BitVec.ofInt k.bits a &&& ~~~BitVec.ofInt k.bits b).toNat)
end Go.Ev

/-
  Laws on memory for the conditions that the evaluator computes: blocks of cells known whole, loads, stores, new blocks, slices. Of any program; no condition.
-/
namespace Go.Ev
open Go

/-- Block b holds the cells cs, none of them frozen. -/
def At (w : World) (b : Nat) (cs : List Value) (T : TypeId) : Prop := ∃ fr : Nat × Nat, w.heap[b]? = some (.cells cs.toArray T fr) ∧ (fr.2 ≤ fr.1 ∨ cs.length ≤ fr.1)

/-- w' is w, but for new blocks and for the blocks in X. -/
structure Ext (w w' : World) (X : Nat → Prop) : Prop where
  os : w'.os = w.os
  tape : w'.tape = w.tape
  output : w'.output = w.output
  size : w.heap.size ≤ w'.heap.size
  same : ∀ b, b < w.heap.size → ¬ X b → w'.heap[b]? = w.heap[b]?

theorem Ext.refl (w : World) (X : Nat → Prop) : Ext w w X := ⟨rfl, rfl, rfl, Nat.le_refl _, fun _ _ _ => rfl⟩
theorem Ext.trans {w w1 w2 : World} {X Y Z : Nat → Prop} (h : Ext w w1 X) (h' : Ext w1 w2 Y) (hx : ∀ b, b < w.heap.size → X b → Z b) (hy : ∀ b, b < w.heap.size → Y b → Z b) : Ext w w2 Z :=
  ⟨h'.os.trans h.os, h'.tape.trans h.tape, h'.output.trans h.output, Nat.le_trans h.size h'.size, fun b hb hn => by
    rw [h'.same b (Nat.lt_of_lt_of_le hb h.size) (fun hc => hn (hy b hb hc)), h.same b hb (fun hc => hn (hx b hb hc))]⟩
theorem Ext.mono {w w1 : World} {X Z : Nat → Prop} (h : Ext w w1 X) (hx : ∀ b, b < w.heap.size → X b → Z b) : Ext w w1 Z :=
  h.trans (Ext.refl _ (fun _ => False)) hx (fun _ _ h => h.elim)
theorem Ext.tr {w w1 w2 : World} {X : Nat → Prop} (h : Ext w w1 X) (h' : Ext w1 w2 X) : Ext w w2 X := h.trans h' (fun _ _ h => h) (fun _ _ h => h)
theorem Ext.tr0 {w w1 w2 : World} {X : Nat → Prop} (h : Ext w w1 X) (h' : Ext w1 w2 (fun _ => False)) : Ext w w2 X := h.trans h' (fun _ _ h => h) (fun _ _ h => h.elim)
theorem Ext.of0 {w w1 : World} {X : Nat → Prop} (h : Ext w w1 (fun _ => False)) : Ext w w1 X := h.mono (fun _ _ h => h.elim)
theorem Ext.drew_ {w w1 : World} {X : Nat → Prop} (h : Ext w w1 X) : Ext w (drew w1) X := ⟨h.os, h.tape, h.output, h.size, h.same⟩
theorem Ext.of_drew {w w1 : World} {X : Nat → Prop} (h : Ext (drew w) w1 X) : Ext w w1 X := ⟨h.os, h.tape, h.output, h.size, h.same⟩
theorem Ext.below {w w1 : World} {X : Nat → Prop} {B : Nat} (h : Ext w w1 X) (hB : B ≤ w.heap.size) (hx : ∀ b, b < B → ¬ X b) : RowKit.Below B w w1 :=
  ⟨h.os, h.tape, h.output, h.size, fun b hb => h.same b (Nat.lt_of_lt_of_le hb hB) (hx b hb)⟩

theorem At.lt {w : World} {b : Nat} {cs : List Value} {T : TypeId} (h : At w b cs T) : b < w.heap.size := by
  obtain ⟨fr, h, _⟩ := h
  rcases Nat.lt_or_ge b w.heap.size with h' | h'
  · exact h'
  · rw [Array.getElem?_eq_none h'] at h; cases h
theorem At.ext {w w' : World} {b : Nat} {cs : List Value} {T : TypeId} {X : Nat → Prop} (h : At w b cs T) (he : Ext w w' X) (hx : ¬ X b) : At w' b cs T := by
  have hl := h.lt
  obtain ⟨fr, h, hf⟩ := h
  exact ⟨fr, by rw [he.same b hl hx]; exact h, hf⟩
theorem At.drew_ {w : World} {b : Nat} {cs : List Value} {T : TypeId} (h : At w b cs T) : At (drew w) b cs T := h
theorem At.cell {w : World} {b o : Nat} {cs : List Value} {T : TypeId} (h : At w b cs T) : w.cell? ⟨b, o, none⟩ = cs[o]? := by
  obtain ⟨fr, h, _⟩ := h
  simp [World.cell?, h]
theorem At.free {w : World} {b o : Nat} {cs : List Value} {T : TypeId} (h : At w b cs T) (ho : o < cs.length) : w.frozen? ⟨b, o, none⟩ = false := by
  obtain ⟨⟨lo, hi⟩, h, hf⟩ := h
  simp only [World.frozen?, h]
  dsimp only at hf
  rcases hf with hf | hf
  · simp only [Bool.and_eq_false_iff, decide_eq_false_iff_not]; omega
  · simp only [Bool.and_eq_false_iff, decide_eq_false_iff_not]; omega
theorem At.inj {w : World} {b : Nat} {cs cs' : List Value} {T T' : TypeId} (h : At w b cs T) (h' : At w b cs' T') : cs = cs' := by
  obtain ⟨fr, h, _⟩ := h
  obtain ⟨fr', h', _⟩ := h'
  rw [h] at h'
  simpa using (Obj.cells.inj (Option.some.inj h')).1
theorem cell_ext {w w' : World} {a : Addr} {X : Nat → Prop} (he : Ext w w' X) (hb : a.block < w.heap.size) (hx : ¬ X a.block) : w'.cell? a = w.cell? a := by
  unfold World.cell?; rw [he.same _ hb hx]
theorem cell_lt {w : World} {a : Addr} {v : Value} (h : w.cell? a = some v) : a.block < w.heap.size := by
  rcases Nat.lt_or_ge a.block w.heap.size with h' | h'
  · exact h'
  · simp [World.cell?, Array.getElem?_eq_none h'] at h

@[simp] theorem add_mk (b o n : Nat) : Addr.add ⟨b, o, none⟩ n = ⟨b, o + n, none⟩ := by
  unfold Addr.add; split <;> simp_all

/- Forms of values. -/
@[simp] theorem fI_int (k : IntKind) (x : Int) (K : Int → Prop) : fI k (.int k x) K = K x := by simp [fI]
@[simp] theorem fB_bool (x : Bool) (K : Bool → Prop) : fB (.bool x) K = K x := by simp [fB]
@[simp] theorem fP_ptr (x : Option Addr) (K : Option Addr → Prop) : fP (.pointer x) K = K x := by simp [fP]
@[simp] theorem fA_ptr (x : Addr) (K : Addr → Prop) : fA (.pointer (some x)) K = K x := by simp [fA]
@[simp] theorem fT_str (x : ByteArray) (K : ByteArray → Prop) : fT (.string x) K = K x := by simp [fT]
@[simp] theorem fG_agg (x : Array Value) (K : Array Value → Prop) : fG (.agg x) K = K x := by simp [fG]
@[simp] theorem fV_val (x : Value) (K : Value → Prop) : fV x K = K x := by simp [fV]
@[simp] theorem fS_slice (a : Option Addr) (n c : Nat) (K : Option Addr → Nat → Nat → Prop) : fS (.slice a n c) K = K a n c := by
  apply propext; constructor
  · rintro ⟨a', n', c', h, hK⟩; cases h; exact hK
  · intro h; exact ⟨_, _, _, rfl, h⟩
@[simp] theorem br_true (A B : Prop) : br true A B = A := rfl
@[simp] theorem br_false (A B : Prop) : br false A B = B := rfl
@[simp] theorem nn_mk (a : Addr) (K : Addr → Prop) : nn (some a) K = K a := rfl
theorem br_of {b : Bool} {A B : Prop} (h1 : b = true → A) (h2 : b = false → B) : br b A B := by
  cases b
  · exact h2 rfl
  · exact h1 rfl
theorem br_pos {b : Bool} {A B : Prop} (h : b = true) (hA : A) : br b A B := by subst h; exact hA
theorem br_neg {b : Bool} {A B : Prop} (h : b = false) (hB : B) : br b A B := by subst h; exact hB

theorem CallE.mono {P : Program} {f : FuncId} {args : Array Value} {w : World} {K K' : Value → World → Prop} (h : CallE P f args w K) (hk : ∀ v w', K v w' → K' v w') : CallE P f args w K' :=
  Calls.mono h fun _ _ ⟨v, he, hK⟩ => ⟨v, he, hk _ _ hK⟩

/- Types. -/
def isScal (P : Program) (t : TypeId) : Bool :=
  match P.underlying t with
  | some (.struct _) | some (.array ..) | none => false
  | _ => true
def isAggT (P : Program) (t : TypeId) : Bool :=
  match P.underlying t with
  | some (.struct _) | some (.array ..) => true
  | _ => false
def sizeT (P : Program) (t : TypeId) : Nat :=
  match P.info? t with
  | some i => i.size
  | none => 0
def hasT (P : Program) (t : TypeId) : Bool := (P.info? t).isSome

section
variable {P : Program} {w : World} {t : TypeId}

theorem run_isAgg_false (h : isScal P t = true) : (isAgg t).run P w = .ok false w := by
  unfold isScal at h
  unfold isAgg underlying
  simp only [Bind.bind, program, Sem.bind, Sem.run]
  cases hu : P.underlying t with
  | none => rw [hu] at h; cases h
  | some d => rw [hu] at h; cases d <;> first | rfl | cases h
theorem run_isAgg_true (h : isAggT P t = true) : (isAgg t).run P w = .ok true w := by
  unfold isAggT at h
  unfold isAgg underlying
  simp only [Bind.bind, program, Sem.bind, Sem.run]
  cases hu : P.underlying t with
  | none => rw [hu] at h; cases h
  | some d => rw [hu] at h; cases d <;> first | rfl | cases h
theorem run_sizeOf {n : Nat} (h : sizeT P t = n) (hh : hasT P t = true) : (sizeOf t).run P w = .ok n w := by
  unfold sizeT at h
  unfold hasT at hh
  unfold sizeOf typeInfo
  simp only [Bind.bind, program, Sem.bind, Sem.run]
  cases hu : P.info? t with
  | none => rw [hu] at hh; cases hh
  | some i => rw [hu] at h; subst h; rfl

theorem run_loadVar {a : Addr} {v : Value} (ht : isScal P t = true) (h : w.cell? a = some v) : (loadVar t a).run P w = .ok v w := by
  unfold loadVar
  rw [Sem.run_bind, run_isAgg_false ht]
  simp only [Result.andThen, Bool.false_eq_true, if_false, load, Sem.run, h]

theorem ld_cell {a : Addr} {v : Value} {K : Value → Prop} (ht : isScal P t = true) (h : w.cell? a = some v) : ld P t a w K = K v := by
  apply propext
  unfold ld
  rw [run_loadVar ht h]
  constructor
  · rintro ⟨v', he, hK⟩; cases he; exact hK
  · intro hK; exact ⟨v, rfl, hK⟩

theorem ld_at {b o : Nat} {cs : List Value} {T : TypeId} {v : Value} {K : Value → Prop} (h : At w b cs T) (hc : cs[o]? = some v) (ht : isScal P t = true) : ld P t ⟨b, o, none⟩ w K = K v :=
  ld_cell ht (h.cell.trans hc)

theorem run_loadCellsFrom {a : Addr} : ∀ (vs : List Value) (i : Nat) (acc : Array Value), (∀ j, j < vs.length → w.cell? (a.add (i + j)) = vs[j]?) →
    (loadCellsFrom a i vs.length acc).run P w = .ok (acc ++ vs.toArray) w
  | [], i, acc, _ => by simp [loadCellsFrom]
  | v :: vs, i, acc, h => by
    have h0 : w.cell? (a.add i) = some v := by simpa using h 0 (by simp)
    have ih := run_loadCellsFrom vs (i + 1) (acc.push v) (fun j hj => by
      have := h (j + 1) (by simp; omega)
      rw [show i + 1 + j = i + (j + 1) by omega, this]; simp)
    simp only [List.length_cons, loadCellsFrom, load, Bind.bind, Sem.bind, Sem.run, h0]
    rw [ih]
    simp

theorem run_loadVar_agg {a : Addr} {vs : List Value} (ht : isAggT P t = true) (hs : sizeT P t = vs.length) (hh : hasT P t = true) (h : ∀ j, j < vs.length → w.cell? (a.add j) = vs[j]?) :
    (loadVar t a).run P w = .ok (.agg vs.toArray) w := by
  unfold loadVar loadCells
  rw [Sem.run_bind, run_isAgg_true ht]
  simp only [Result.andThen, if_true]
  rw [Sem.run_bind, run_sizeOf hs hh]
  simp only [Result.andThen]
  rw [Sem.run_bind, run_loadCellsFrom (P := P) vs 0 #[] (by simpa using h)]
  simp [Result.andThen]

theorem ld_cells {a : Addr} {vs : List Value} {K : Value → Prop} (ht : isAggT P t = true) (hs : sizeT P t = vs.length) (hh : hasT P t = true) (h : ∀ j, j < vs.length → w.cell? (a.add j) = vs[j]?) :
    ld P t a w K = K (.agg vs.toArray) := by
  apply propext
  unfold ld
  rw [run_loadVar_agg ht hs hh h]
  constructor
  · rintro ⟨v', he, hK⟩; cases he; exact hK
  · intro hK; exact ⟨_, rfl, hK⟩

theorem ld_at_agg {b o n : Nat} {cs : List Value} {T : TypeId} {K : Value → Prop} (h : At w b cs T) (hn : o + n ≤ cs.length) (ht : isAggT P t = true) (hs : sizeT P t = n) (hh : hasT P t = true) :
    ld P t ⟨b, o, none⟩ w K = K (.agg ((cs.drop o).take n).toArray) := by
  have hl : ((cs.drop o).take n).length = n := by simp; omega
  refine ld_cells ht (by rw [hl]; exact hs) hh fun j hj => ?_
  rw [hl] at hj
  rw [add_mk, h.cell, List.getElem?_take_of_lt hj, List.getElem?_drop]

/-- A value of one cell. -/
def one : Value → Bool
  | .agg _ | .tuple _ => false
  | _ => true

theorem cells_one {v : Value} (h : one v = true) : v.cells = #[v] := by cases v <;> first | rfl | cases h

theorem setCell_at {b o : Nat} {cs : List Value} {T : TypeId} {v : Value} (h : At w b cs T) : At (w.setCell ⟨b, o, none⟩ v) b (cs.set o v) T := by
  obtain ⟨fr, h', hf⟩ := h
  refine ⟨fr, ?_, by simpa using hf⟩
  unfold World.setCell
  simp [Array.getElem?_modify, h']

theorem setCell_ext {a : Addr} {v : Value} : Ext w (w.setCell a v) (· = a.block) := by
  refine ⟨rfl, rfl, rfl, by simp [World.setCell], fun b hb hn => ?_⟩
  simp [World.setCell, Array.getElem?_modify, Ne.symm hn]

theorem setCell_size {a : Addr} {v : Value} : (w.setCell a v).heap.size = w.heap.size := by simp [World.setCell]

theorem run_store1 {α : Type} {b o : Nat} {cs : List Value} {T : TypeId} {v : Value} {k : Sem α} (h : At w b cs T) (ho : o < cs.length) (hv : one v = true) :
    (Sem.store .plain ⟨b, o, none⟩ v k).run P w = k.run P (w.setCell ⟨b, o, none⟩ v) := by
  have hc : w.cell? ⟨b, o, none⟩ = some cs[o] := by rw [h.cell]; simp [ho]
  cases v <;> first | (simp only [Sem.run, hc, h.free ho, Bool.false_eq_true, if_false]; done) | cases hv

/-- A list overwritten from a place on. -/
def splice : List Value → Nat → List Value → List Value
  | cs, _, [] => cs
  | cs, o, v :: vs => splice (cs.set o v) (o + 1) vs

theorem splice_length : ∀ (vs cs : List Value) (o : Nat), (splice cs o vs).length = cs.length
  | [], _, _ => rfl
  | v :: vs, cs, o => by simp only [splice]; rw [splice_length vs]; simp

theorem splice_get : ∀ (vs cs : List Value) (o i : Nat), o + vs.length ≤ cs.length → (splice cs o vs)[i]? = if o ≤ i ∧ i < o + vs.length then vs[i - o]? else cs[i]?
  | [], cs, o, i, _ => by simp only [splice]; rw [if_neg (by simp)]
  | v :: vs, cs, o, i, h => by
    simp only [List.length_cons] at h
    simp only [splice]
    rw [splice_get vs (cs.set o v) (o + 1) i (by simp; omega)]
    by_cases h1 : o + 1 ≤ i ∧ i < o + 1 + vs.length
    · rw [if_pos h1, if_pos (by simp; omega)]
      have : i - o = (i - (o + 1)) + 1 := by omega
      rw [this]; simp
    · rw [if_neg h1]
      by_cases h2 : i = o
      · subst h2
        rw [if_pos (by simp), List.getElem?_set_self (by omega)]; simp
      · rw [if_neg (by simp; omega), List.getElem?_set_ne (Ne.symm h2)]

theorem splice_all (cs vs : List Value) (h : vs.length = cs.length) : splice cs 0 vs = vs := by
  apply List.ext_getElem?
  intro i
  rw [splice_get vs cs 0 i (by omega)]
  by_cases hi : i < vs.length
  · rw [if_pos (by omega)]; simp
  · rw [if_neg (by omega), List.getElem?_eq_none (by omega), List.getElem?_eq_none (by omega)]

theorem splice_eq : ∀ (vs cs : List Value) (o : Nat), o + vs.length ≤ cs.length → splice cs o vs = cs.take o ++ vs ++ cs.drop (o + vs.length)
  | vs, cs, o, h => by
    apply List.ext_getElem?
    intro i
    rw [splice_get vs cs o i h]
    by_cases h1 : i < o
    · rw [if_neg (by omega), List.append_assoc, List.getElem?_append_left (by simp; omega), List.getElem?_take_of_lt h1]
    · by_cases h2 : i < o + vs.length
      · rw [if_pos (by omega), List.append_assoc, List.getElem?_append_right (by simp; omega), List.getElem?_append_left (by simp; omega)]
        congr 1; simp; omega
      · rw [if_neg (by omega), List.append_assoc, List.getElem?_append_right (by simp; omega), List.getElem?_append_right (by simp; omega), List.getElem?_drop]
        congr 1; simp; omega

theorem run_storeCells {b o : Nat} {T : TypeId} : ∀ (vs : List Value) (cs : List Value) (w : World) (i : Nat), At w b cs T → (∀ v ∈ vs, one v = true) → o + i + vs.length ≤ cs.length →
    ∃ w', (storeCells ⟨b, o, none⟩ vs i).run P w = .ok () w' ∧ At w' b (splice cs (o + i) vs) T ∧ Ext w w' (· = b) ∧ w'.heap.size = w.heap.size
  | [], cs, w, i, h, _, _ => ⟨w, rfl, h, Ext.refl _ _, rfl⟩
  | v :: vs, cs, w, i, h, hv, hl => by
    simp only [List.length_cons] at hl
    have h1 := setCell_at (o := o + i) (v := v) h
    obtain ⟨w', hr, ha, he, hs⟩ := run_storeCells (o := o) vs (cs.set (o + i) v) _ (i + 1) h1 (fun u hu => hv u (.tail _ hu)) (by simp; omega)
    refine ⟨w', ?_, ha, setCell_ext.trans he (fun _ _ h => h) (fun _ _ h => h), hs.trans setCell_size⟩
    simp only [storeCells, store, Bind.bind, Sem.bind, add_mk]
    rw [run_store1 h (by omega) (hv v (.head _))]
    exact hr

theorem st_at {b o : Nat} {cs : List Value} {T : TypeId} {v : Value} {K : World → Prop} (h : At w b cs T) (ho : o < cs.length) (hv : one v = true) (hs : sizeT P t = 1) (hh : hasT P t = true)
    (hK : ∀ w', At w' b (cs.set o v) T → Ext w w' (· = b) → w'.heap.size = w.heap.size → K w') : st P t ⟨b, o, none⟩ v w K := by
  obtain ⟨w', hr, ha, he, hz⟩ := run_storeCells (P := P) (b := b) (o := o) [v] cs w 0 h (by simpa using hv) (by simp; omega)
  refine ⟨w', ?_, hK w' ha he hz⟩
  unfold storeVar
  rw [Sem.run_bind, run_sizeOf hs hh]
  simp only [Result.andThen, cells_one hv, List.size_toArray, List.length_cons, List.length_nil, Nat.zero_add, ne_eq, not_true_eq_false, if_false]
  exact hr

theorem st_at_agg {b o n : Nat} {cs : List Value} {T : TypeId} {vs : List Value} {K : World → Prop} (h : At w b cs T) (ho : o + n ≤ cs.length) (hn : vs.length = n) (hv : ∀ v ∈ vs, one v = true) (hs : sizeT P t = n) (hh : hasT P t = true)
    (hK : ∀ w', At w' b (splice cs o vs) T → Ext w w' (· = b) → w'.heap.size = w.heap.size → K w') : st P t ⟨b, o, none⟩ (.agg vs.toArray) w K := by
  obtain ⟨w', hr, ha, he, hz⟩ := run_storeCells (P := P) (b := b) (o := o) vs cs w 0 h hv (by omega)
  refine ⟨w', ?_, hK w' ha he hz⟩
  unfold storeVar
  rw [Sem.run_bind, run_sizeOf hs hh]
  simp only [Result.andThen, Value.cells, List.size_toArray, hn, ne_eq, not_true_eq_false, if_false]
  exact hr

theorem al_at {cs : List Value} {K : Addr → World → Prop} (hK : ∀ b w', b = w.heap.size → At w' b cs t → Ext w w' (fun _ => False) → w'.heap.size = w.heap.size + 1 → K ⟨b, 0, none⟩ w') : al t cs.toArray w K := by
  refine hK _ _ rfl ?_ ⟨rfl, rfl, rfl, by simp, fun b hb _ => ?_⟩ (by simp)
  · exact ⟨(0, 0), by simp, .inl (Nat.le_refl _)⟩
  · simp [Array.getElem?_push, Nat.ne_of_lt hb]

/- Places in arrays and slices. -/
theorem run_underlying_ok {d : TypeDesc} (h : P.underlying t = some d) : (underlying t).run P w = .ok d w := by
  unfold underlying
  simp only [Bind.bind, program, Sem.bind, Sem.run, h]
  rfl

theorem run_indexArr {a : Addr} {k : IntKind} {i : Int} {n m : Nat} {e : TypeId} (hu : P.underlying t = some (.array n e)) (hm : sizeT P e = m) (hh : hasT P e = true) (h0 : 0 ≤ i) (h1 : i < n) :
    (Instr.indexAt t (.pointer (some a)) (.int k i)).run P w = .ok (.pointer (some (a.add (i.toNat * m)))) w := by
  unfold Instr.indexAt
  simp only [asIntOf, Instr.sureAddr, Sem.run_bind, Sem.run_pure, Result.andThen, run_underlying_ok hu]
  rw [if_pos ⟨h0, h1⟩]
  simp only [Sem.run_bind, run_sizeOf hm hh, Result.andThen, Sem.run_pure]

theorem run_indexSl {a : Addr} {k : IntKind} {i : Int} {n c m : Nat} {e : TypeId} (hu : P.underlying t = some (.slice e)) (hm : sizeT P e = m) (hh : hasT P e = true) (h0 : 0 ≤ i) (h1 : i < n) :
    (Instr.indexAt t (.slice (some a) n c) (.int k i)).run P w = .ok (.pointer (some (a.add (i.toNat * m)))) w := by
  unfold Instr.indexAt
  simp only [asIntOf, Sem.run_bind, Sem.run_pure, Result.andThen, run_underlying_ok hu]
  rw [if_pos ⟨h0, h1⟩]
  simp only [Sem.run_bind, run_sizeOf hm hh, Result.andThen, Sem.run_pure]

theorem rq_of {s : Sem Value} {v : Value} {K : Value → Prop} (h : s.run P w = .ok v w) : rq P s w K = K v := by
  apply propext
  unfold rq
  rw [h]
  constructor
  · rintro ⟨v', he, hK⟩; cases he; exact hK
  · intro hK; exact ⟨v, rfl, hK⟩

theorem ld_i {b o : Nat} {cs : List Value} {T : TypeId} {v : Value} {K : Value → Prop} (h : At w b cs T) (hc : cs[o]? = some v) (hK : K v) (ht : isScal P t = true := by kernel_rfl) : ld P t ⟨b, o, none⟩ w K :=
  (ld_at h hc ht).symm ▸ hK
theorem ld_c {a : Addr} {v : Value} {K : Value → Prop} (h : w.cell? a = some v) (hK : K v) (ht : isScal P t = true := by kernel_rfl) : ld P t a w K :=
  (ld_cell ht h).symm ▸ hK
theorem ld_g {b o : Nat} {cs : List Value} {T : TypeId} {K : Value → Prop} (n : Nat) (h : At w b cs T) (hn : o + n ≤ cs.length) (hK : K (.agg ((cs.drop o).take n).toArray))
    (ht : isAggT P t = true := by kernel_rfl) (hs : sizeT P t = n := by kernel_rfl) (hh : hasT P t = true := by kernel_rfl) : ld P t ⟨b, o, none⟩ w K :=
  (ld_at_agg h hn ht hs hh).symm ▸ hK
theorem st_i {b o : Nat} {cs : List Value} {T : TypeId} {v : Value} {K : World → Prop} (h : At w b cs T) (ho : o < cs.length)
    (hK : ∀ w', At w' b (cs.set o v) T → Ext w w' (· = b) → w'.heap.size = w.heap.size → K w') (hv : one v = true := by rfl) (hs : sizeT P t = 1 := by kernel_rfl) (hh : hasT P t = true := by kernel_rfl) : st P t ⟨b, o, none⟩ v w K :=
  st_at h ho hv hs hh hK
theorem st_g {b o : Nat} {cs : List Value} {T : TypeId} {vs : List Value} {K : World → Prop} (n : Nat) (h : At w b cs T) (ho : o + n ≤ cs.length) (hn : vs.length = n) (hv : ∀ v ∈ vs, one v = true)
    (hK : ∀ w', At w' b (splice cs o vs) T → Ext w w' (· = b) → w'.heap.size = w.heap.size → K w') (hs : sizeT P t = n := by kernel_rfl) (hh : hasT P t = true := by kernel_rfl) : st P t ⟨b, o, none⟩ (.agg vs.toArray) w K :=
  st_at_agg h ho hn hv hs hh hK
theorem ix_arr {a : Addr} {k : IntKind} {i : Int} {K : Value → Prop} (n m : Nat) (e : TypeId) (h0 : 0 ≤ i) (h1 : i < n) (hK : K (.pointer (some (a.add (i.toNat * m)))))
    (hu : P.underlying t = some (.array n e) := by kernel_rfl) (hm : sizeT P e = m := by kernel_rfl) (hh : hasT P e = true := by kernel_rfl) : rq P (Instr.indexAt t (.pointer (some a)) (.int k i)) w K :=
  (rq_of (run_indexArr hu hm hh h0 h1)).symm ▸ hK
theorem ix_sl {a : Addr} {k : IntKind} {i : Int} {n c : Nat} {K : Value → Prop} (m : Nat) (e : TypeId) (h0 : 0 ≤ i) (h1 : i < n) (hK : K (.pointer (some (a.add (i.toNat * m)))))
    (hu : P.underlying t = some (.slice e) := by kernel_rfl) (hm : sizeT P e = m := by kernel_rfl) (hh : hasT P e = true := by kernel_rfl) : rq P (Instr.indexAt t (.slice (some a) n c) (.int k i)) w K :=
  (rq_of (run_indexSl hu hm hh h0 h1)).symm ▸ hK
theorem al_i {cs : Array Value} {K : Addr → World → Prop} (hK : ∀ b w', b = w.heap.size → At w' b cs.toList t → Ext w w' (fun _ => False) → w'.heap.size = w.heap.size + 1 → K ⟨b, 0, none⟩ w') : al t cs w K :=
  al_at (cs := cs.toList) hK
theorem al_st {vs : List Value} {K : Addr → World → Prop} (n : Nat) (hn : vs.length = n) (hv : ∀ v ∈ vs, one v = true)
    (hK : ∀ b w', b = w.heap.size → At w' b vs t → Ext w w' (fun _ => False) → w'.heap.size = w.heap.size + 1 → K ⟨b, 0, none⟩ w')
    (hz : (zeroT P t).cells.size = n := by kernel_rfl) (hs : sizeT P t = n := by kernel_rfl) (hh : hasT P t = true := by kernel_rfl) :
    al t (zeroT P t).cells w fun a w1 => st P t a (.agg vs.toArray) w1 fun w2 => K a w2 := by
  refine al_i fun b w1 hb h1 e1 z1 => ?_
  refine st_g n h1 (by simp [hz]) hn hv (fun w2 h2 e2 z2 => ?_) hs hh
  rw [splice_all _ _ (by simp [hz, hn])] at h2
  exact hK b w2 hb h2 (e1.trans e2 (fun _ _ h => h) (fun b' hb' h => by omega)) (by omega)
theorem run_indexAgg {l : List Value} {k : IntKind} {i : Int} {n m : Nat} {e : TypeId} (hu : P.underlying t = some (.array n e)) (ha : isAggT P e = true) (hm : sizeT P e = m) (hh : hasT P e = true) (h0 : 0 ≤ i) (h1 : i < n) :
    (Instr.index t (.agg l.toArray) (.int k i)).run P w = .ok (.agg ((l.drop (i.toNat * m)).take m).toArray) w := by
  unfold Instr.index
  simp only [asIntOf, Sem.run_bind, Sem.run_pure, Result.andThen, run_underlying_ok hu]
  rw [if_pos ⟨h0, h1⟩]
  simp only [Sem.run_bind, run_sizeOf hm hh, Result.andThen, part, run_isAgg_true ha, if_true, Sem.run_pure]
  simp [List.extract_eq_take_drop]
theorem ix_agg {l : List Value} {k : IntKind} {i : Int} {K : Value → Prop} (n m : Nat) (e : TypeId) (h0 : 0 ≤ i) (h1 : i < n) (hK : K (.agg ((l.drop (i.toNat * m)).take m).toArray))
    (hu : P.underlying t = some (.array n e) := by kernel_rfl) (ha : isAggT P e = true := by kernel_rfl) (hm : sizeT P e = m := by kernel_rfl) (hh : hasT P e = true := by kernel_rfl) : rq P (Instr.index t (.agg l.toArray) (.int k i)) w K :=
  (rq_of (run_indexAgg hu ha hm hh h0 h1)).symm ▸ hK
/- In every world that meets S. -/
variable {S : World → Prop}
theorem ldS_i {b o : Nat} {cs : List Value} {T : TypeId} {v : Value} {K : Value → Prop} (h : ∀ w, S w → At w b cs T) (hc : cs[o]? = some v) (hK : K v) (ht : isScal P t = true := by kernel_rfl) : ldS P S t ⟨b, o, none⟩ K :=
  ⟨v, fun w hw => run_loadVar ht ((h w hw).cell.trans hc), hK⟩
theorem ldS_c {a : Addr} {v : Value} {K : Value → Prop} (h : ∀ w, S w → w.cell? a = some v) (hK : K v) (ht : isScal P t = true := by kernel_rfl) : ldS P S t a K :=
  ⟨v, fun w hw => run_loadVar ht (h w hw), hK⟩
theorem ldS_cs {a : Addr} {vs : List Value} {K : Value → Prop} (h : ∀ w, S w → ∀ j, j < vs.length → w.cell? (a.add j) = vs[j]?) (hK : K (.agg vs.toArray))
    (ht : isAggT P t = true := by kernel_rfl) (hs : sizeT P t = vs.length := by kernel_rfl) (hh : hasT P t = true := by kernel_rfl) : ldS P S t a K :=
  ⟨_, fun w hw => run_loadVar_agg ht hs hh (h w hw), hK⟩
theorem ld_cs {a : Addr} {vs : List Value} {K : Value → Prop} (h : ∀ j, j < vs.length → w.cell? (a.add j) = vs[j]?) (hK : K (.agg vs.toArray))
    (ht : isAggT P t = true := by kernel_rfl) (hs : sizeT P t = vs.length := by kernel_rfl) (hh : hasT P t = true := by kernel_rfl) : ld P t a w K :=
  (ld_cells ht hs hh h).symm ▸ hK
theorem ldS_g {b : Nat} {cs : List Value} {T : TypeId} {K : Value → Prop} (h : ∀ w, S w → At w b cs T) (hK : K (.agg cs.toArray))
    (ht : isAggT P t = true := by kernel_rfl) (hs : sizeT P t = cs.length := by kernel_rfl) (hh : hasT P t = true := by kernel_rfl) : ldS P S t ⟨b, 0, none⟩ K :=
  ldS_cs (fun w hw j _ => by rw [add_mk, (h w hw).cell, Nat.zero_add]) hK ht hs hh
/-- A whole block. -/
theorem ld_w {b : Nat} {cs : List Value} {T : TypeId} {K : Value → Prop} (h : At w b cs T) (hK : K (.agg cs.toArray))
    (ht : isAggT P t = true := by kernel_rfl) (hs : sizeT P t = cs.length := by kernel_rfl) (hh : hasT P t = true := by kernel_rfl) : ld P t ⟨b, 0, none⟩ w K :=
  ld_cs (fun j _ => by rw [add_mk, h.cell, Nat.zero_add]) hK ht hs hh
theorem ixS_sl {a : Addr} {k : IntKind} {i : Int} {n c : Nat} {K : Value → Prop} (m : Nat) (e : TypeId) (h0 : 0 ≤ i) (h1 : i < n) (hK : K (.pointer (some (a.add (i.toNat * m)))))
    (hu : P.underlying t = some (.slice e) := by kernel_rfl) (hm : sizeT P e = m := by kernel_rfl) (hh : hasT P e = true := by kernel_rfl) : rqS P S (Instr.indexAt t (.slice (some a) n c) (.int k i)) K :=
  ⟨_, fun _ _ => run_indexSl hu hm hh h0 h1, hK⟩
theorem ixS_arr {a : Addr} {k : IntKind} {i : Int} {K : Value → Prop} (n m : Nat) (e : TypeId) (h0 : 0 ≤ i) (h1 : i < n) (hK : K (.pointer (some (a.add (i.toNat * m)))))
    (hu : P.underlying t = some (.array n e) := by kernel_rfl) (hm : sizeT P e = m := by kernel_rfl) (hh : hasT P e = true := by kernel_rfl) : rqS P S (Instr.indexAt t (.pointer (some a)) (.int k i)) K :=
  ⟨_, fun _ _ => run_indexArr hu hm hh h0 h1, hK⟩

/- Comparisons with nil; remainders. -/
def isPtr (P : Program) (t : TypeId) : Bool :=
  match P.underlying t with
  | some (.pointer _) => true
  | _ => false

theorem run_eqGuard_other {op : BinOp} {x y : Operand} {a b : Value} (h : op ≠ .eql) (h' : op ≠ .neq) : (eqGuard op t x y a b).run P w = .ok () w := by
  unfold eqGuard
  cases op <;> first | rfl | (exact absurd rfl h) | (exact absurd rfl h')

theorem run_eqGuard_ptr {op : BinOp} {x y : Operand} {p q : Option Addr} : (eqGuard op t x y (.pointer p) (.pointer q)).run P w = .ok () w := by
  unfold eqGuard
  cases op <;> rfl

theorem run_equal_nil {p : Option Addr} (ht : isPtr P t = true) : (Op.equal t (.pointer p) (.pointer none)).run P w = .ok p.isNone w := by
  unfold isPtr at ht
  cases hu : P.underlying t with
  | none => rw [hu] at ht; cases ht
  | some d =>
    rw [hu] at ht
    cases d <;> first | cases ht | skip
    unfold Op.equal Op.maxDepth Op.equalIn
    rw [Sem.run_bind, run_underlying_ok hu]
    cases p <;> rfl

theorem eq_nil {x y : Operand} {p : Option Addr} {K : Value → Prop} (hK : K (.bool p.isNone)) (ht : isPtr P t = true := by kernel_rfl) :
    rq P (do eqGuard .eql t x y (.pointer p) (.pointer none); binOp .eql t (.pointer p) (.pointer none)) w K := by
  rw [rq_of (v := .bool p.isNone)]
  · exact hK
  · rw [Sem.run_bind, run_eqGuard_ptr]
    simp only [Result.andThen, binOp]
    rw [Sem.run_bind, run_equal_nil ht]
    rfl
theorem ne_nil {x y : Operand} {p : Option Addr} {K : Value → Prop} (hK : K (.bool (!p.isNone))) (ht : isPtr P t = true := by kernel_rfl) :
    rq P (do eqGuard .neq t x y (.pointer p) (.pointer none); binOp .neq t (.pointer p) (.pointer none)) w K := by
  rw [rq_of (v := .bool (!p.isNone))]
  · exact hK
  · rw [Sem.run_bind, run_eqGuard_ptr]
    simp only [Result.andThen, binOp]
    rw [Sem.run_bind, run_equal_nil ht]
    rfl

theorem rem_i {x y : Operand} {k : IntKind} {a b : Int} {K : Value → Prop} (hb : b ≠ 0) (hK : K (.int k (a.tmod b))) :
    rq P (do eqGuard .rem t x y (.int k a) (.int k b); binOp .rem t (.int k a) (.int k b)) w K := by
  rw [rq_of (v := .int k (a.tmod b))]
  · exact hK
  · rw [Sem.run_bind, run_eqGuard_other (by simp) (by simp)]
    simp [Result.andThen, binOp, Op.intDiv, hb]
theorem quo_i {x y : Operand} {k : IntKind} {a b : Int} {K : Value → Prop} (hb : b ≠ 0) (hK : K (.int k (k.wrap (a.tdiv b)))) :
    rq P (do eqGuard .quo t x y (.int k a) (.int k b); binOp .quo t (.int k a) (.int k b)) w K := by
  rw [rq_of (v := .int k (k.wrap (a.tdiv b)))]
  · exact hK
  · rw [Sem.run_bind, run_eqGuard_other (by simp) (by simp)]
    simp [Result.andThen, binOp, Op.intDiv, hb]
/-- A new variable, of which the number of cells alone is told. -/
theorem al_n {K : Addr → World → Prop} (n : Nat) (hK : ∀ b w' zs, b = w.heap.size → zs.length = n → At w' b zs t → Ext w w' (fun _ => False) → w'.heap.size = w.heap.size + 1 → K ⟨b, 0, none⟩ w')
    (hz : (zeroT P t).cells.size = n := by kernel_rfl) : al t (zeroT P t).cells w K :=
  al_i fun b w' hb a e z => hK b w' _ hb (by simpa using hz) a e z
/-- A whole variable is overwritten. -/
theorem st_w {b : Nat} {cs : List Value} {T : TypeId} {vs : List Value} {K : World → Prop} (n : Nat) (h : At w b cs T) (ho : cs.length = n) (hn : vs.length = n) (hv : ∀ v ∈ vs, one v = true)
    (hK : ∀ w', At w' b vs T → Ext w w' (· = b) → w'.heap.size = w.heap.size → K w') (hs : sizeT P t = n := by kernel_rfl) (hh : hasT P t = true := by kernel_rfl) : st P t ⟨b, 0, none⟩ (.agg vs.toArray) w K :=
  st_g n h (by omega) hn hv (fun w' a e z => hK w' (by rwa [splice_all _ _ (by omega)] at a) e z) hs hh
end
theorem add_add_ (a : Addr) (i j : Nat) : (a.add i).add j = a.add (i + j) := by
  unfold Addr.add
  by_cases hi : i = 0
  · subst hi; simp
  · by_cases hj : j = 0
    · subst hj; simp
    · simp [hi, hj, Nat.add_assoc]
end Go.Ev

/-
  Laws on lists that are laid out as rows of equal length, and on integers that wrap. No program; no condition.
-/
namespace Go.Ev
open Go

section
variable {α β : Type} {f : α → List β} {m : Nat}

theorem flat_length (hf : ∀ x, (f x).length = m) : ∀ (l : List α), (l.flatMap f).length = l.length * m
  | [] => by simp
  | x :: l => by simp [List.flatMap_cons, hf x, flat_length hf l, Nat.add_mul, Nat.add_comm]

theorem flat_get (hf : ∀ x, (f x).length = m) : ∀ (l : List α) (i j : Nat) (hi : i < l.length), j < m → (l.flatMap f)[i * m + j]? = (f l[i])[j]?
  | x :: l, 0, j, _, hj => by
    rw [List.flatMap_cons, List.getElem?_append_left (by rw [hf x]; omega)]; simp
  | x :: l, i + 1, j, hi, hj => by
    rw [List.flatMap_cons, List.getElem?_append_right (by rw [hf x, Nat.add_mul]; omega), hf x]
    have : (i + 1) * m + j - m = i * m + j := by rw [Nat.add_mul]; omega
    rw [this, flat_get hf l i j (by simpa using hi) hj]; simp

theorem flat_row (hf : ∀ x, (f x).length = m) (l : List α) (i : Nat) (hi : i < l.length) : ((l.flatMap f).drop (i * m)).take m = f l[i] := by
  apply List.ext_getElem?
  intro j
  by_cases hj : j < m
  · rw [List.getElem?_take_of_lt hj, List.getElem?_drop, flat_get hf l i j hi hj]
  · rw [List.getElem?_eq_none (by simp; omega), List.getElem?_eq_none (by rw [hf]; omega)]

theorem flat_set (hf : ∀ x, (f x).length = m) (v : β) (y : α) : ∀ (l : List α) (i j : Nat) (hi : i < l.length), j < m → (f l[i]).set j v = f y → (l.flatMap f).set (i * m + j) v = (l.set i y).flatMap f
  | x :: l, 0, j, _, hj, h => by
    simp only [List.flatMap_cons, List.set_cons_zero]
    rw [List.set_append_left _ _ (by rw [hf x]; omega)]
    simp only [Nat.zero_mul, Nat.zero_add]
    rw [← h]; rfl
  | x :: l, i + 1, j, hi, hj, h => by
    simp only [List.flatMap_cons, List.set_cons_succ]
    rw [List.set_append_right _ _ (by rw [hf x, Nat.add_mul]; omega), hf x]
    have : (i + 1) * m + j - m = i * m + j := by rw [Nat.add_mul]; omega
    rw [this, flat_set hf v y l i j (by simpa using hi) hj (by simpa using h)]

end

theorem wrap_i64 {x : Int} (h0 : -9223372036854775808 ≤ x) (h1 : x ≤ 9223372036854775807) : IntKind.wrap .i64 x = x := by
  simp only [IntKind.wrap, IntKind.bits, IntKind.signed, Bool.true_and]
  split <;> rename_i h <;> simp at h <;> omega
theorem wrap_u64 {x : Int} (h0 : 0 ≤ x) (h1 : x ≤ 18446744073709551615) : IntKind.wrap .u64 x = x := by
  simp only [IntKind.wrap, IntKind.bits, IntKind.signed, Bool.false_and, Bool.false_eq_true, if_false]
  omega
theorem wrap_u64' (x : Int) : IntKind.wrap .u64 x = x % 18446744073709551616 := by
  simp [IntKind.wrap, IntKind.bits, IntKind.signed]
theorem wrap_u32' (x : Int) : IntKind.wrap .u32 x = x % 4294967296 := by
  simp [IntKind.wrap, IntKind.bits, IntKind.signed]
theorem wrap_u8' (x : Int) : IntKind.wrap .u8 x = x % 256 := by
  simp [IntKind.wrap, IntKind.bits, IntKind.signed]
theorem wrap_i64' (x : Int) : IntKind.wrap .i64 x = (x + 9223372036854775808) % 18446744073709551616 - 9223372036854775808 := by
  simp only [IntKind.wrap, IntKind.bits, IntKind.signed, Bool.true_and]
  split <;> rename_i h <;> simp at h <;> omega

end Go.Ev

/-
  Laws on slices that a function makes itself: make and append. Of any program; no condition.
-/
namespace Go.Ev
open Go

/-- What the table says of a type whose values have m cells and whose zero value is z. -/
def TI (P : Program) (e : TypeId) (m : Nat) (z : List Value) : Prop := ∃ i, P.info? e = some i ∧ i.size = m ∧ i.bytes ≤ 4096 ∧ (∃ v, i.zero = some v ∧ v.cells = z.toArray) ∧ z.length = m

def tiB (P : Program) (e : TypeId) (m : Nat) : Bool :=
  match P.info? e with
  | some i => Nat.beq i.size m && Nat.ble i.bytes 4096 && (match i.zero with | some v => Nat.beq v.cells.size m | none => false)
  | none => false
def zeroL (P : Program) (e : TypeId) : List Value := (zeroT P e).cells.toList

theorem TI.of {P : Program} {e : TypeId} {m : Nat} (h : tiB P e m = true) : TI P e m (zeroL P e) := by
  unfold tiB at h
  split at h
  · rename_i i hi
    simp only [Bool.and_eq_true] at h
    obtain ⟨⟨h1, h2⟩, h3⟩ := h
    split at h3
    · rename_i v hv
      have hz : zeroT P e = v := by simp [zeroT, hi, hv]
      refine ⟨i, hi, Nat.eq_of_beq_eq_true h1, Nat.le_of_ble_eq_true h2, ⟨v, hv, ?_⟩, ?_⟩
      · simp [zeroL, hz]
      · simp [zeroL, hz, Nat.eq_of_beq_eq_true h3]
    · cases h3
  · cases h

section
variable {P : Program} {w : World} {t e : TypeId} {m : Nat} {z : List Value}

theorem run_typeInfo_i {i : TypeInfo} (h : P.info? e = some i) : (typeInfo e).run P w = .ok i w := by
  unfold typeInfo
  simp [Sem.run_bind, program, Sem.run, h, Result.andThen]
theorem run_sizeOf_i {i : TypeInfo} (h : P.info? e = some i) : (sizeOf e).run P w = .ok i.size w := by
  unfold sizeOf
  simp [Sem.run_bind, run_typeInfo_i h, Result.andThen]
theorem run_zeroValue_i {i : TypeInfo} {v : Value} (h : P.info? e = some i) (hz : i.zero = some v) : (zeroValue e).run P w = .ok v w := by
  unfold zeroValue
  simp [Sem.run_bind, run_typeInfo_i h, Result.andThen, hz]
theorem run_askRoom (n : Nat) : (askRoom n).run P w = .ok () w := by
  unfold askRoom
  split <;> rfl
theorem run_newRow (cs : Array Value) : (newRow e cs).run P w = .ok ⟨w.heap.size, 0, none⟩ { w with heap := w.heap.push (.cells cs e) } := by
  unfold newRow
  simp [Sem.run_bind, newObj, Sem.run, Result.andThen]

/-- n zero values in a row. -/
def zeros (z : List Value) (n : Nat) : List Value := (List.replicate n z).flatten

theorem zeros_length (z : List Value) (n : Nat) : (zeros z n).length = n * z.length := by simp [zeros]
theorem zeros_get (z : List Value) (hz : 0 < z.length) : ∀ (n i : Nat), i < n * z.length → (zeros z n)[i]? = z[i % z.length]?
  | 0, i, h => by simp at h
  | n + 1, i, h => by
    unfold zeros
    rw [List.replicate_succ, List.flatten_cons]
    by_cases hi : i < z.length
    · rw [List.getElem?_append_left hi, Nat.mod_eq_of_lt hi]
    · rw [List.getElem?_append_right (by omega)]
      have h' : i - z.length < n * z.length := by rw [Nat.add_mul] at h; omega
      have := zeros_get z hz n (i - z.length) h'
      unfold zeros at this
      rw [this]
      congr 1
      exact (Nat.mod_eq_sub_mod (by omega)).symm
theorem zeros_one (v : Value) (n : Nat) : zeros [v] n = List.replicate n v := by
  induction n with
  | zero => rfl
  | succ n ih => simp [zeros, List.replicate_succ] at ih ⊢

theorem range_map (z : List Value) (n : Nat) : (Array.range (n * z.length)).map (fun i => z.toArray[i % z.toArray.size]!) = (zeros z n).toArray := by
  rcases Nat.eq_zero_or_pos z.length with h0 | h0
  · have : z = [] := List.eq_nil_of_length_eq_zero h0
    subst this
    simp [zeros]
  apply Array.ext
  · simp [zeros_length]
  · intro i h1 h2
    simp only [Array.size_map, Array.size_range] at h1
    have hg := zeros_get z h0 n i h1
    have hm : i % z.length < z.length := Nat.mod_lt _ h0
    rw [List.getElem?_eq_getElem (by rw [zeros_length]; exact h1), List.getElem?_eq_getElem hm] at hg
    simp only [Option.some.injEq] at hg
    simp only [Array.getElem_map, Array.getElem_range, List.size_toArray, List.getElem_toArray]
    rw [hg, getElem!_pos z.toArray (i % z.length) (by simpa using hm)]
    simp

theorem zeroCells_eq (z : List Value) (n : Nat) : Builtin.zeroCells z.toArray n = (zeros z n).toArray := by
  unfold Builtin.zeroCells
  exact range_map z n

/-- make([]T, n). -/
theorem mk_i {k k' : IntKind} {n : Int} {K : Value → World → Prop} (e : TypeId) (m : Nat) (h0 : 0 ≤ n) (h1 : n ≤ 1000000000)
    (hK : ∀ b w', b = w.heap.size → At w' b (zeros (zeroL P e) n.toNat) e → Ext w w' (fun _ => False) → w'.heap.size = w.heap.size + 1 → K (.slice (some ⟨b, 0, none⟩) n.toNat n.toNat) w')
    (hu : P.underlying t = some (.slice e) := by kernel_rfl) (hti : tiB P e m = true := by kernel_rfl) : rv P (Instr.makeSlice t (.int k n) (.int k' n)) w K := by
  obtain ⟨i, hi, hm, hb, ⟨v, hz, hv⟩, hzl⟩ := TI.of hti
  generalize zeroL P e = z at *
  have hw : IntKind.i64.wrap n = n := wrap_i64 (by omega) (by omega)
  have hlarge : ¬ ((i.bytes : Int) * n > 2 ^ 48) := by
    have : (i.bytes : Int) * n ≤ 4096 * 1000000000 := Int.mul_le_mul (by omega) h1 h0 (by omega)
    omega
  refine ⟨_, _, ?_, hK w.heap.size { w with heap := w.heap.push (.cells (zeros z n.toNat).toArray e) } rfl ?_ ⟨rfl, rfl, rfl, by simp, fun b hb _ => ?_⟩ (by simp)⟩
  · unfold Instr.makeSlice
    simp only [Sem.run_bind, run_underlying_ok hu, Result.andThen, asInt, asIntOf, Sem.run_pure, run_typeInfo_i hi, hw]
    rw [if_neg (by simp; omega)]
    simp only [Sem.run_bind, run_askRoom, Result.andThen, run_sizeOf_i hi, hm]
    by_cases hn0 : n.toNat * m = 0
    · rw [if_pos hn0]
      simp only [Sem.run_bind, Sem.run_pure, Result.andThen, run_newRow]
      have : zeros z n.toNat = [] := List.eq_nil_of_length_eq_zero (by rw [zeros_length, hzl]; exact hn0)
      rw [this, hn0, show Array.range 0 = #[] from rfl, Array.map_empty]
    · rw [if_neg hn0]
      simp only [Sem.run_bind, Sem.run_pure, Result.andThen, run_zeroValue_i hi hz, run_newRow, hv]
      rw [← hzl, range_map]
  · exact ⟨(0, 0), by simp, .inl (Nat.le_refl _)⟩
  · simp [Array.getElem?_push, Nat.ne_of_lt hb]

/-- A slice that the code made itself: nil, or from the head of a block. -/
def Sl (w : World) (e : TypeId) (m : Nat) (a : Option Addr) (n c : Nat) (xs : List Value) : Prop :=
  (a = none ∧ n = 0 ∧ c = 0 ∧ xs = []) ∨ ∃ (b : Nat) (sp : List Value), a = some ⟨b, 0, none⟩ ∧ At w b (xs ++ sp) e ∧ xs.length = n * m ∧ sp.length = (c - n) * m ∧ n ≤ c

theorem Sl.ext {w w' : World} {m : Nat} {a : Option Addr} {n c : Nat} {xs : List Value} {X : Nat → Prop} (h : Sl w e m a n c xs) (he : Ext w w' X) (hx : ∀ b, a = some ⟨b, 0, none⟩ → ¬ X b) : Sl w' e m a n c xs := by
  rcases h with h | ⟨b, sp, rfl, h1, h2⟩
  · exact .inl h
  · exact .inr ⟨b, sp, rfl, h1.ext he (hx b rfl), h2⟩

/-- The cells that a slice's first elements hold. -/
def Reads (w : World) (a : Option Addr) (vs : List Value) : Prop := vs = [] ∨ ∃ p, a = some p ∧ ∀ j, j < vs.length → w.cell? (p.add j) = vs[j]?

theorem Sl.reads {w : World} {m : Nat} {a : Option Addr} {n c : Nat} {xs : List Value} (h : Sl w e m a n c xs) : Reads w a xs := by
  rcases h with ⟨_, _, _, h⟩ | ⟨b, sp, rfl, h1, h2⟩
  · exact .inl h
  · refine .inr ⟨_, rfl, fun j hj => ?_⟩
    rw [add_mk, h1.cell, Nat.zero_add, List.getElem?_append_left hj]

theorem run_firstCells {a : Option Addr} {vs : List Value} {n c k : Nat} (h : Reads w a vs) (hl : vs.length = k * m) : (Builtin.firstCells m k (.slice a n c)).run P w = .ok vs.toArray w := by
  unfold Builtin.firstCells
  rcases h with rfl | ⟨p, rfl, h⟩
  · cases a with
    | none => rfl
    | some p =>
      simp only [loadCells]
      rw [← hl]
      exact run_loadCellsFrom (P := P) [] 0 #[] (by simp)
  · simp only [loadCells]
    rw [← hl, run_loadCellsFrom (P := P) vs 0 #[] (by simpa using h)]
    simp

theorem growBy_le (n : Nat) : ∀ (r c : Nat), c ≤ n + (n + 768) / 4 → Builtin.growBy n r c ≤ n + (n + 768) / 4
  | 0, c, h => h
  | r + 1, c, h => by
    unfold Builtin.growBy
    split
    · exact h
    · exact growBy_le n r _ (by omega)
theorem nextslicecap_le {n c : Nat} (h : c < n) : Builtin.nextslicecap n c ≤ 2 * n + 192 := by
  unfold Builtin.nextslicecap
  split
  · omega
  · split
    · omega
    · have := growBy_le n 4 c (by omega)
      omega

def isSlT (P : Program) (t : TypeId) : Bool :=
  match P.underlying t with
  | some (.slice _) => true
  | _ => false

/-- append(s, x...), onto a slice of the code's own. -/
theorem ap_g {a xa : Option Addr} {n c xn xc : Nat} {xs vs : List Value} {t2 t3 : TypeId} {K : Value → World → Prop} (e : TypeId) (m : Nat) (hs : Sl w e m a n c xs) (hx : Reads w xa vs) (hxl : vs.length = xn * m) (hone : ∀ v ∈ vs, one v = true)
    (hbd : n + xn ≤ 4611686018427387904) (hgr : ∀ i, P.info? e = some i → c < n + xn → ¬ (Builtin.nextslicecap (n + xn) c * i.bytes > 2 ^ 48))
    (hK : ∀ a' c' w', Sl w' e m a' (n + xn) c' (xs ++ vs) → (∀ b, a' = some ⟨b, 0, none⟩ → a = some ⟨b, 0, none⟩ ∨ w.heap.size ≤ b) → (a.isSome = true → a'.isSome = true) → Ext w w' (fun b => a = some ⟨b, 0, none⟩) → K (.slice a' (n + xn) c') w')
    (hu : P.underlying t = some (.slice e) := by kernel_rfl) (hu2 : isSlT P t2 = true := by kernel_rfl) (hti : tiB P e m = true := by kernel_rfl) :
    rv P (Builtin.append_ #[t, t2] t3 #[.slice a n c, .slice xa xn xc]) w K := by
  obtain ⟨i, hi, hm, hb, ⟨v, hz, hv⟩, hzl⟩ := TI.of hti
  generalize zeroL P e = z at *
  obtain ⟨e2, hd2⟩ : ∃ e2, P.underlying t2 = some (.slice e2) := by
    unfold isSlT at hu2
    split at hu2
    · rename_i e2 h; exact ⟨e2, h⟩
    · cases hu2
  have hsl : xs.length = n * m := by
    rcases hs with ⟨_, rfl, _, rfl⟩ | ⟨b, sp, rfl, h1, h2, _⟩
    · simp
    · exact h2
  by_cases hcap : n + xn ≤ c
  · rcases hs with ⟨rfl, rfl, rfl, rfl⟩ | ⟨b, sp, rfl, h1, h2, h3, h4⟩
    · have hxn : xn = 0 := by omega
      subst hxn
      have hvs : vs = [] := List.eq_nil_of_length_eq_zero (by simpa using hxl)
      subst hvs
      refine ⟨.slice none 0 0, w, ?_, hK none 0 w (.inl ⟨rfl, rfl, rfl, rfl⟩) (fun b h => by cases h) id (Ext.refl _ _)⟩
      unfold Builtin.append_
      simp only [List.getElem?_toArray, List.getElem?_cons_zero, List.getElem?_cons_succ, Sem.run_bind, run_underlying_ok hu, Result.andThen, run_sizeOf_i hi, hm, run_underlying_ok hd2, Sem.run_pure, Bool.false_eq_true, if_false, Builtin.lenOf, Bool.not_false, if_true]
      rw [if_pos (Nat.le_refl _)]
      simp only [Sem.run_bind, run_firstCells hx hxl, Result.andThen, Sem.run_pure]
    · have hroom : n * m + vs.length ≤ (xs ++ sp).length := by
        rw [List.length_append, h2, h3, hxl]
        have : xn * m ≤ (c - n) * m := Nat.mul_le_mul_right _ (by omega)
        omega
      obtain ⟨w', hr, ha, he, hz'⟩ := run_storeCells (P := P) (b := b) (o := n * m) vs (xs ++ sp) w 0 h1 hone (by omega)
      have hsp : splice (xs ++ sp) (n * m) vs = (xs ++ vs) ++ sp.drop vs.length := by
        rw [splice_eq _ _ _ hroom, ← hsl, List.take_left, List.drop_append]
        simp
      refine ⟨.slice (some ⟨b, 0, none⟩) (n + xn) c, w', ?_, hK _ c w' (.inr ⟨b, sp.drop vs.length, rfl, ?_, ?_, ?_, hcap⟩) (fun b' h => .inl h) id (he.mono fun b' _ h => by subst h; rfl)⟩
      · unfold Builtin.append_
        simp only [List.getElem?_toArray, List.getElem?_cons_zero, List.getElem?_cons_succ, Sem.run_bind, run_underlying_ok hu, Result.andThen, run_sizeOf_i hi, hm, run_underlying_ok hd2, Sem.run_pure, Bool.false_eq_true, if_false, Builtin.lenOf, Bool.not_false, if_true]
        rw [if_pos hcap]
        simp only [Sem.run_bind, run_firstCells hx hxl, Result.andThen, Sem.run_pure, add_mk, Nat.zero_add]
        rw [hr]
      · rw [← hsp]; simpa using ha
      · simp [hsl, hxl, Nat.add_mul]
      · simp only [List.length_drop, h3, hxl]
        rw [← Nat.sub_mul]; congr 1; omega
  · have hncap : c < n + xn := by omega
    have hnext : ¬ (Builtin.nextslicecap (n + xn) c * i.bytes > 2 ^ 48) := hgr i hi hncap
    have hreads : Reads w a xs := hs.reads
    have hreads' : Reads (drew w) a xs := hreads
    have hx' : Reads (drew w) xa vs := hx
    generalize hcp : (n + xn) + w.tape w.drawn (.appendCap (n + xn) c e) % (2 ^ 63 - (n + xn)) = cap
    have hcapge : n + xn ≤ cap := by omega
    refine ⟨.slice (some ⟨w.heap.size, 0, none⟩) (n + xn) cap, { drew w with heap := w.heap.push (.cells ((xs ++ vs) ++ zeros z (cap - (n + xn))).toArray e) }, ?_, hK _ cap _ (.inr ⟨w.heap.size, zeros z (cap - (n + xn)), rfl, ?_, ?_, ?_, hcapge⟩) (fun b' h => .inr ?_) (fun _ => rfl) ⟨rfl, rfl, rfl, by simp, fun b' hb' _ => ?_⟩⟩
    · unfold Builtin.append_
      simp only [List.getElem?_toArray, List.getElem?_cons_zero, List.getElem?_cons_succ, Sem.run_bind, run_underlying_ok hu, Result.andThen, run_sizeOf_i hi, hm, run_underlying_ok hd2, Sem.run_pure, Bool.false_eq_true, if_false, Builtin.lenOf, Bool.not_false, if_true]
      rw [if_neg hcap]
      simp only [Sem.run_bind, run_typeInfo_i hi, Result.andThen]
      rw [if_neg (by rintro ⟨h, _⟩; simp [IntKind.max, IntKind.signed, IntKind.bits] at h; omega)]
      simp only [Sem.run_bind, run_typeInfo_i hi, Result.andThen]
      rw [if_neg hnext]
      simp only [Sem.run_bind, choose, Sem.run, Question.forced, Bool.false_eq_true, if_false, Question.cut, hcp]
      have hd : ({ w with drawn := w.drawn + 1 } : World) = drew w := rfl
      rw [hd]
      simp only [Sem.run_bind, run_typeInfo_i hi, Result.andThen, run_askRoom, run_firstCells hreads' hsl, run_firstCells hx' hxl, run_zeroValue_i hi hz, hv, zeroCells_eq, run_newRow, Sem.run_pure]
      simp [drew]
      rfl
    · exact ⟨(0, 0), by simp, .inl (Nat.le_refl _)⟩
    · simp [hsl, hxl, Nat.add_mul]
    · rw [zeros_length, hzl]
    · simp only [Option.some.injEq, Addr.mk.injEq, and_true] at h
      omega
    · simp [Array.getElem?_push, Nat.ne_of_lt hb']
/-- append(s, x...), of few elements. -/
theorem ap_i {a xa : Option Addr} {n c xn xc : Nat} {xs vs : List Value} {t2 t3 : TypeId} {K : Value → World → Prop} (e : TypeId) (m : Nat) (hs : Sl w e m a n c xs) (hx : Reads w xa vs) (hxl : vs.length = xn * m) (hone : ∀ v ∈ vs, one v = true)
    (hbd : n + xn ≤ 1000000000)
    (hK : ∀ a' c' w', Sl w' e m a' (n + xn) c' (xs ++ vs) → (∀ b, a' = some ⟨b, 0, none⟩ → a = some ⟨b, 0, none⟩ ∨ w.heap.size ≤ b) → (a.isSome = true → a'.isSome = true) → Ext w w' (fun b => a = some ⟨b, 0, none⟩) → K (.slice a' (n + xn) c') w')
    (hu : P.underlying t = some (.slice e) := by kernel_rfl) (hu2 : isSlT P t2 = true := by kernel_rfl) (hti : tiB P e m = true := by kernel_rfl) :
    rv P (Builtin.append_ #[t, t2] t3 #[.slice a n c, .slice xa xn xc]) w K := by
  refine ap_g e m hs hx hxl hone (by omega) (fun i hi hncap => ?_) hK hu hu2 hti
  obtain ⟨i', hi', hm, hb, _⟩ := TI.of hti
  rw [hi] at hi'
  cases hi'
  have h1 := nextslicecap_le hncap
  have h2 : Builtin.nextslicecap (n + xn) c * i.bytes ≤ 2000000192 * 4096 := Nat.mul_le_mul (by omega) hb
  omega
def bytes1 (P : Program) (e : TypeId) : Bool :=
  match P.info? e with
  | some i => Nat.beq i.bytes 1
  | none => false
/-- append to nothing, of elements of one byte. -/
theorem ap_0 {a xa : Option Addr} {xn xc : Nat} {vs : List Value} {t2 t3 : TypeId} {K : Value → World → Prop} (e : TypeId) (hs : Sl w e 1 a 0 0 []) (hx : Reads w xa vs) (hxl : vs.length = xn) (hone : ∀ v ∈ vs, one v = true)
    (hbd : xn ≤ 140737488355328)
    (hK : ∀ a' c' w', Sl w' e 1 a' xn c' vs → (∀ b, a' = some ⟨b, 0, none⟩ → a = some ⟨b, 0, none⟩ ∨ w.heap.size ≤ b) → (a.isSome = true → a'.isSome = true) → Ext w w' (fun b => a = some ⟨b, 0, none⟩) → K (.slice a' xn c') w')
    (hu : P.underlying t = some (.slice e) := by kernel_rfl) (hu2 : isSlT P t2 = true := by kernel_rfl) (hti : tiB P e 1 = true := by kernel_rfl) (hb1 : bytes1 P e = true := by kernel_rfl) :
    rv P (Builtin.append_ #[t, t2] t3 #[.slice a 0 0, .slice xa xn xc]) w K := by
  refine ap_g e 1 hs hx (by rw [hxl, Nat.mul_one]) hone (by omega) (fun i hi hlt => ?_) (fun a' c' w' h1 h2 h3 h4 => ?_) hu hu2 hti
  · unfold bytes1 at hb1
    rw [hi] at hb1
    dsimp only at hb1
    rw [Nat.eq_of_beq_eq_true hb1, Nat.zero_add]
    unfold Builtin.nextslicecap
    rw [if_pos (by omega)]
    omega
  · rw [Nat.zero_add] at *
    rw [List.nil_append] at h1
    exact hK a' c' w' h1 h2 h3 h4
theorem Sl.isome {w : World} {a : Option Addr} {n c : Nat} {xs : List Value} (h : Sl w e m a n c xs) (ha : a.isSome = true) :
    ∃ (b : Nat) (sp : List Value), a = some ⟨b, 0, none⟩ ∧ At w b (xs ++ sp) e ∧ xs.length = n * m ∧ sp.length = (c - n) * m ∧ n ≤ c := by
  rcases h with ⟨rfl, _⟩ | h
  · cases ha
  · exact h
theorem Sl.new {w : World} {b n : Nat} {xs : List Value} (h : At w b xs e) (hl : xs.length = n * m) : Sl w e m (some ⟨b, 0, none⟩) n n xs :=
  .inr ⟨b, [], rfl, by simpa using h, hl, by simp, Nat.le_refl _⟩
end
end Go.Ev

/-
  Laws on strings of bytes, shifts and conversions. Of any program; no condition.
-/
namespace Go.Ev
open Go

def mkS (l : List UInt8) : ByteArray := ⟨l.toArray⟩
theorem mkS_size (l : List UInt8) : (mkS l).size = l.length := by simp [mkS, ByteArray.size]
theorem mkS_of (s : ByteArray) : s = mkS s.data.toList := by cases s; simp [mkS]
theorem mkS_inj {a b : List UInt8} : mkS a = mkS b ↔ a = b := by
  constructor
  · intro h
    have := congrArg (fun s => s.data.toList) h
    simpa [mkS] using this
  · rintro rfl; rfl
theorem mkS_nil : (⟨#[]⟩ : ByteArray) = mkS [] := rfl
theorem mkS_extract (l : List UInt8) (a b : Nat) : (mkS l).extract a b = mkS ((l.take b).drop a) := by
  rw [mkS_of ((mkS l).extract a b)]
  congr 1
  rw [ByteArray.data_extract]
  simp [mkS, List.extract_eq_take_drop, List.drop_take]
theorem mkS_append (a b : List UInt8) : mkS a ++ mkS b = mkS (a ++ b) := by
  rw [mkS_of (mkS a ++ mkS b)]
  congr 1
theorem mkS_get (l : List UInt8) (i : Nat) : (mkS l)[i]? = l[i]? := by
  by_cases h : i < l.length
  · rw [getElem?_pos (mkS l) i (by rw [mkS_size]; exact h), List.getElem?_eq_getElem h]
    congr 1
  · rw [getElem?_neg (mkS l) i (by rw [mkS_size]; exact h), List.getElem?_eq_none (by omega)]

/-- The cells of a row of bytes. -/
def by_ (l : List UInt8) : List Value := l.map fun b => .int .u8 (b.toNat : Int)
theorem by_length (l : List UInt8) : (by_ l).length = l.length := by simp [by_]
theorem by_append (a b : List UInt8) : by_ (a ++ b) = by_ a ++ by_ b := by simp [by_]
theorem by_one (l : List UInt8) : ∀ v ∈ by_ l, one v = true := by
  intro v hv
  simp only [by_, List.mem_map] at hv
  obtain ⟨b, _, rfl⟩ := hv
  rfl
theorem by_get (l : List UInt8) (i : Nat) : (by_ l)[i]? = (l[i]?).map fun b => Value.int .u8 (b.toNat : Int) := by simp [by_]

section
variable {P : Program} {w : World} {t : TypeId}

theorem rq_r {s : Sem Value} {v : Value} {K : Value → Prop} (h : ∀ w, s.run P w = .ok v w) (hK : K v) : rq P s w K := ⟨v, h w, hK⟩
theorem rqS_r {S : World → Prop} {s : Sem Value} {v : Value} {K : Value → Prop} (h : ∀ w, s.run P w = .ok v w) (hK : K v) : rqS P S s K := ⟨v, fun w _ => h w, hK⟩

def isStr (P : Program) (t : TypeId) : Bool :=
  match P.underlying t with
  | some .string => true
  | _ => false
theorem isStr_eq (h : isStr P t = true) : P.underlying t = some .string := by
  unfold isStr at h
  split at h
  · assumption
  · cases h

/-- s[i] -/
theorem sx {l : List UInt8} {k : IntKind} {i : Int} (h0 : 0 ≤ i) (h1 : i < l.length) (ht : isStr P t = true := by kernel_rfl) :
    ∀ w, (Instr.index t (.string (mkS l)) (.int k i)).run P w = .ok (.int .u8 ((l[i.toNat]'(by omega)).toNat : Int)) w := by
  intro w
  unfold Instr.index
  simp only [asIntOf, Sem.run_bind, Sem.run_pure, Result.andThen, run_underlying_ok (isStr_eq ht)]
  rw [if_pos h0, mkS_get, List.getElem?_eq_getElem (by omega)]
  rfl

/-- s[i], the byte by its number. -/
theorem sxn {l : List UInt8} {k : IntKind} (i : Nat) (h1 : i < l.length) (ht : isStr P t = true := by kernel_rfl) :
    ∀ w, (Instr.index t (.string (mkS l)) (.int k (i : Int))).run P w = .ok (.int .u8 ((l.getD i 0).toNat : Int)) w := by
  intro w
  rw [sx (by omega) (by omega) ht, List.getD_eq_getElem?_getD, List.getElem?_eq_getElem h1]
  rfl

theorem run_sliceBound {k : IntKind} {i : Int} {n : Nat} {c : BoundsCode} (h0 : 0 ≤ i) (h1 : i ≤ n) : (Instr.sliceBound (.int k i) n c).run P w = .ok i.toNat w := by
  unfold Instr.sliceBound
  simp only [asIntOf, Sem.run_bind, Sem.run_pure, Result.andThen]
  rw [if_pos ⟨h0, h1⟩]
  rfl

/-- s[a:] -/
theorem s_lo {l : List UInt8} {k : IntKind} {i : Int} (h0 : 0 ≤ i) (h1 : i ≤ l.length) (ht : isStr P t = true := by kernel_rfl) :
    ∀ w, (Instr.sliceAt t (.string (mkS l)) (some (.int k i)) none none).run P w = .ok (.string (mkS (l.drop i.toNat))) w := by
  intro w
  unfold Instr.sliceAt Instr.slice
  simp only [Sem.run_bind, Result.andThen, run_underlying_ok (isStr_eq ht), Instr.sliceBounds, Sem.run_pure, mkS_size, run_sliceBound h0 h1, Option.isSome_none, Bool.false_eq_true, if_false, mkS_extract, List.take_length]
/-- s[:b] -/
theorem s_hi {l : List UInt8} {k : IntKind} {i : Int} (h0 : 0 ≤ i) (h1 : i ≤ l.length) (ht : isStr P t = true := by kernel_rfl) :
    ∀ w, (Instr.sliceAt t (.string (mkS l)) none (some (.int k i)) none).run P w = .ok (.string (mkS (l.take i.toNat))) w := by
  intro w
  unfold Instr.sliceAt Instr.slice
  simp only [Sem.run_bind, Result.andThen, run_underlying_ok (isStr_eq ht), Instr.sliceBounds, Sem.run_pure, mkS_size, run_sliceBound h0 h1, Option.isSome_none, Bool.false_eq_true, if_false, mkS_extract, List.drop_zero]
/-- s[a:b] -/
theorem s_lh {l : List UInt8} {k k' : IntKind} {i j : Int} (h0 : 0 ≤ i) (hij : i ≤ j) (h1 : j ≤ l.length) (ht : isStr P t = true := by kernel_rfl) :
    ∀ w, (Instr.sliceAt t (.string (mkS l)) (some (.int k i)) (some (.int k' j)) none).run P w = .ok (.string (mkS ((l.take j.toNat).drop i.toNat))) w := by
  intro w
  unfold Instr.sliceAt Instr.slice
  simp only [Sem.run_bind, Result.andThen, run_underlying_ok (isStr_eq ht), Instr.sliceBounds, Sem.run_pure, mkS_size, run_sliceBound (show 0 ≤ j by omega) h1, run_sliceBound (n := j.toNat) h0 (by omega), Option.isSome_none, Bool.false_eq_true, if_false, mkS_extract]

theorem toList_mkS (l : List UInt8) : (mkS l).toList = l := by
  rw [ByteArray.toList_eq]
  simp [mkS]

/-- a + b -/
theorem s_add {a b : List UInt8} {x y : Operand} (h : a.length + b.length < 9223372036854775807) :
    ∀ w, (do eqGuard .add t x y (.string (mkS a)) (.string (mkS b)); binOp .add t (.string (mkS a)) (.string (mkS b)) : Sem Value).run P w = .ok (.string (mkS (a ++ b))) w := by
  intro w
  rw [Sem.run_bind, run_eqGuard_other (by simp) (by simp)]
  simp only [Result.andThen, binOp, Op.stringOp, mkS_size, mkS_append]
  rw [if_neg (by simp [IntKind.max, IntKind.signed, IntKind.bits]; omega)]
  rfl
theorem run_eqGuard_str {op : BinOp} {x y : Operand} {a b : ByteArray} : (eqGuard op t x y (.string a) (.string b)).run P w = .ok () w := by
  unfold eqGuard
  cases op <;> rfl
/-- a == b -/
theorem s_eq {a b : List UInt8} {x y : Operand} :
    ∀ w, (do eqGuard .eql t x y (.string (mkS a)) (.string (mkS b)); binOp .eql t (.string (mkS a)) (.string (mkS b)) : Sem Value).run P w = .ok (.bool (decide (a = b))) w := by
  intro w
  rw [Sem.run_bind, run_eqGuard_str]
  simp only [Result.andThen, binOp, Op.stringOp, toList_mkS]
  rw [show (a == b) = decide (a = b) by by_cases h : a = b <;> simp [h]]
  rfl
/-- a != b -/
theorem s_ne {a b : List UInt8} {x y : Operand} :
    ∀ w, (do eqGuard .neq t x y (.string (mkS a)) (.string (mkS b)); binOp .neq t (.string (mkS a)) (.string (mkS b)) : Sem Value).run P w = .ok (.bool (!decide (a = b))) w := by
  intro w
  rw [Sem.run_bind, run_eqGuard_str]
  simp only [Result.andThen, binOp, Op.stringOp, toList_mkS]
  rw [show (a == b) = decide (a = b) by by_cases h : a = b <;> simp [h]]
  rfl

/-- x << n, x >> n -/
theorem shl_i {k k' : IntKind} {a b : Int} {x y : Operand} (h0 : 0 ≤ b) (h1 : b ≤ k.bits) :
    ∀ w, (do eqGuard .shl t x y (.int k a) (.int k' b); binOp .shl t (.int k a) (.int k' b) : Sem Value).run P w = .ok (.int k (k.wrap (a * 2 ^ b.toNat))) w := by
  intro w
  rw [Sem.run_bind, run_eqGuard_other (by simp) (by simp)]
  simp only [Result.andThen, binOp, Op.shift]
  rw [if_neg (by omega), Nat.min_eq_left (by omega)]
  rfl
theorem shr_i {k k' : IntKind} {a b : Int} {x y : Operand} (h0 : 0 ≤ b) (h1 : b ≤ k.bits) :
    ∀ w, (do eqGuard .shr t x y (.int k a) (.int k' b); binOp .shr t (.int k a) (.int k' b) : Sem Value).run P w = .ok (.int k (a.fdiv (2 ^ b.toNat))) w := by
  intro w
  rw [Sem.run_bind, run_eqGuard_other (by simp) (by simp)]
  simp only [Result.andThen, binOp, Op.shift]
  rw [if_neg (by omega), Nat.min_eq_left (by omega)]
  rfl

def isBytes (P : Program) (t : TypeId) : Bool :=
  match P.underlying t with
  | some (.slice e) => (match P.underlying e with | some (.int .u8) => true | _ => false)
  | _ => false

/-- string(bytes) -/
theorem bs_str {a : Option Addr} {n c : Nat} {l : List UInt8} {d : TypeId} {K : Value → World → Prop} (h : Reads w a (by_ l)) (hl : l.length = n) (hK : K (.string (mkS l)) w)
    (ht : isBytes P t = true := by kernel_rfl) (hd : isStr P d = true := by kernel_rfl) : rv P (convert t d (.slice a n c)) w K := by
  refine ⟨_, _, ?_, hK⟩
  unfold isBytes at ht
  split at ht
  · rename_i e hu
    split at ht
    · rename_i he
      cases a with
      | none =>
        rcases h with h | ⟨p, hp, _⟩
        · have : l = [] := by cases l with | nil => rfl | cons _ _ => simp [by_] at h
          subst this
          rw [run_convert_bytes_string w t d e none n c hu he (isStr_eq hd)]
          rfl
        · cases hp
      | some p =>
        subst hl
        refine run_convert_bytes_back w t d e p c l hu he (isStr_eq hd) ?_
        intro j hj
        rcases h with h | ⟨p', hp, hc⟩
        · have : l = [] := by cases l with | nil => rfl | cons _ _ => simp [by_] at h
          subst this
          simp at hj
        · cases hp
          rw [hc j (by rw [by_length]; exact hj), by_get, List.getElem?_eq_getElem hj]
          rfl
    · cases ht
  · cases ht

def arrT (P : Program) (t : TypeId) (n : Nat) : Bool :=
  match P.underlying t with
  | some (.array m e) => Nat.beq m n && hasT P e
  | _ => false
/-- arr[:] -/
theorem a_all {a : Addr} (n : Nat) (ht : arrT P t n = true := by kernel_rfl) :
    ∀ w, (Instr.sliceAt t (.pointer (some a)) none none none).run P w = .ok (.slice (some a) n n) w := by
  intro w
  unfold arrT at ht
  split at ht
  · rename_i m e hu
    simp only [Bool.and_eq_true] at ht
    obtain rfl := Nat.eq_of_beq_eq_true ht.1
    unfold Instr.sliceAt
    simp only [Sem.run_bind, Result.andThen, run_underlying_ok hu, Instr.sliceBounds, Sem.run_pure, Instr.sureAddr, run_sizeOf rfl ht.2, Nat.sub_zero, Nat.zero_mul]
    have : a.add 0 = a := by unfold Addr.add; rw [if_pos rfl]
    rw [this, ite_self]
  · cases ht
end
end Go.Ev

/-
  The rules on memory, strings and numbers, each with the form of its value. Of any program; no condition.
-/
namespace Go.Ev
open Go

section
variable {P : Program} {w : World} {t : TypeId} {S : World → Prop}

theorem fi {k : IntKind} {x : Int} {K : Int → Prop} (h : K x) : fI k (.int k x) K := ⟨x, rfl, h⟩
theorem fb {x : Bool} {K : Bool → Prop} (h : K x) : fB (.bool x) K := ⟨x, rfl, h⟩
theorem fp {x : Option Addr} {K : Option Addr → Prop} (h : K x) : fP (.pointer x) K := ⟨x, rfl, h⟩
theorem fa {x : Addr} {K : Addr → Prop} (h : K x) : fA (.pointer (some x)) K := ⟨x, rfl, h⟩
theorem fs {a : Option Addr} {n c : Nat} {K : Option Addr → Nat → Nat → Prop} (h : K a n c) : fS (.slice a n c) K := ⟨a, n, c, rfl, h⟩
theorem ft {x : ByteArray} {K : ByteArray → Prop} (h : K x) : fT (.string x) K := ⟨x, rfl, h⟩
theorem fg {x : Array Value} {K : Array Value → Prop} (h : K x) : fG (.agg x) K := ⟨x, rfl, h⟩

theorem ldI {b o : Nat} {cs : List Value} {T : TypeId} {k : IntKind} {x : Int} {K : Int → Prop} (h : At w b cs T) (hc : cs[o]? = some (.int k x)) (hK : K x) (ht : isScal P t = true := by kernel_rfl) : ld P t ⟨b, o, none⟩ w fun v => fI k v K := ld_i h hc (fi hK) ht
theorem ldB {b o : Nat} {cs : List Value} {T : TypeId} {x : Bool} {K : Bool → Prop} (h : At w b cs T) (hc : cs[o]? = some (.bool x)) (hK : K x) (ht : isScal P t = true := by kernel_rfl) : ld P t ⟨b, o, none⟩ w fun v => fB v K := ld_i h hc (fb hK) ht
theorem ldP {b o : Nat} {cs : List Value} {T : TypeId} {x : Option Addr} {K : Option Addr → Prop} (h : At w b cs T) (hc : cs[o]? = some (.pointer x)) (hK : K x) (ht : isScal P t = true := by kernel_rfl) : ld P t ⟨b, o, none⟩ w fun v => fP v K := ld_i h hc (fp hK) ht
theorem ldL {b o : Nat} {cs : List Value} {T : TypeId} {a : Option Addr} {n c : Nat} {K : Option Addr → Nat → Nat → Prop} (h : At w b cs T) (hc : cs[o]? = some (.slice a n c)) (hK : K a n c) (ht : isScal P t = true := by kernel_rfl) : ld P t ⟨b, o, none⟩ w fun v => fS v K := ld_i h hc (fs hK) ht
theorem ldT {b o : Nat} {cs : List Value} {T : TypeId} {x : ByteArray} {K : ByteArray → Prop} (h : At w b cs T) (hc : cs[o]? = some (.string x)) (hK : K x) (ht : isScal P t = true := by kernel_rfl) : ld P t ⟨b, o, none⟩ w fun v => fT v K := ld_i h hc (ft hK) ht
theorem lcI {a : Addr} {k : IntKind} {x : Int} {K : Int → Prop} (hc : w.cell? a = some (.int k x)) (hK : K x) (ht : isScal P t = true := by kernel_rfl) : ld P t a w fun v => fI k v K := ld_c hc (fi hK) ht
theorem lcB {a : Addr} {x : Bool} {K : Bool → Prop} (hc : w.cell? a = some (.bool x)) (hK : K x) (ht : isScal P t = true := by kernel_rfl) : ld P t a w fun v => fB v K := ld_c hc (fb hK) ht
theorem lcL {p : Addr} {a : Option Addr} {n c : Nat} {K : Option Addr → Nat → Nat → Prop} (hc : w.cell? p = some (.slice a n c)) (hK : K a n c) (ht : isScal P t = true := by kernel_rfl) : ld P t p w fun v => fS v K := ld_c hc (fs hK) ht
theorem lcT {a : Addr} {x : ByteArray} {K : ByteArray → Prop} (hc : w.cell? a = some (.string x)) (hK : K x) (ht : isScal P t = true := by kernel_rfl) : ld P t a w fun v => fT v K := ld_c hc (ft hK) ht

/- A place in a slice. -/
theorem ixs {a : Addr} {k : IntKind} {n c : Nat} {K : Addr → Prop} (i m : Nat) (e : TypeId) (h1 : i < n) (hK : K (a.add (i * m)))
    (hu : P.underlying t = some (.slice e) := by kernel_rfl) (hm : sizeT P e = m := by kernel_rfl) (hh : hasT P e = true := by kernel_rfl) : rq P (Instr.indexAt t (.slice (some a) n c) (.int k (i : Int))) w fun v => fA v K :=
  ix_sl m e (by omega) (by omega) (fa (by rw [Int.toNat_natCast]; exact hK)) hu hm hh
/-- A place in a slice that begins at a block's head. -/
theorem ixb {b : Nat} {k : IntKind} {n c : Nat} {K : Addr → Prop} (i m : Nat) (e : TypeId) (h1 : i < n) (hK : K ⟨b, i * m, none⟩)
    (hu : P.underlying t = some (.slice e) := by kernel_rfl) (hm : sizeT P e = m := by kernel_rfl) (hh : hasT P e = true := by kernel_rfl) : rq P (Instr.indexAt t (.slice (some ⟨b, 0, none⟩) n c) (.int k (i : Int))) w fun v => fA v K :=
  ixs i m e h1 (by rw [add_mk, Nat.zero_add]; exact hK) hu hm hh
theorem ixbS {b : Nat} {k : IntKind} {n c : Nat} {K : Addr → Prop} (i m : Nat) (e : TypeId) (h1 : i < n) (hK : K ⟨b, i * m, none⟩)
    (hu : P.underlying t = some (.slice e) := by kernel_rfl) (hm : sizeT P e = m := by kernel_rfl) (hh : hasT P e = true := by kernel_rfl) : rqS P S (Instr.indexAt t (.slice (some ⟨b, 0, none⟩) n c) (.int k (i : Int))) fun v => fA v K :=
  ixS_sl m e (by omega) (by omega) (fa (by rw [Int.toNat_natCast, add_mk, Nat.zero_add]; exact hK)) hu hm hh
theorem ixsS {a : Addr} {k : IntKind} {n c : Nat} {K : Addr → Prop} (i m : Nat) (e : TypeId) (h1 : i < n) (hK : K (a.add (i * m)))
    (hu : P.underlying t = some (.slice e) := by kernel_rfl) (hm : sizeT P e = m := by kernel_rfl) (hh : hasT P e = true := by kernel_rfl) : rqS P S (Instr.indexAt t (.slice (some a) n c) (.int k (i : Int))) fun v => fA v K :=
  ixS_sl m e (by omega) (by omega) (fa (by rw [Int.toNat_natCast]; exact hK)) hu hm hh
/-- A place in an array that fills a block. -/
theorem ixa {b : Nat} {k : IntKind} {K : Addr → Prop} (i n m : Nat) (e : TypeId) (h1 : i < n) (hK : K ⟨b, i * m, none⟩)
    (hu : P.underlying t = some (.array n e) := by kernel_rfl) (hm : sizeT P e = m := by kernel_rfl) (hh : hasT P e = true := by kernel_rfl) : rq P (Instr.indexAt t (.pointer (some ⟨b, 0, none⟩)) (.int k (i : Int))) w fun v => fA v K :=
  ix_arr n m e (by omega) (by omega) (fa (by rw [Int.toNat_natCast, add_mk, Nat.zero_add]; exact hK)) hu hm hh

/- Strings. -/
theorem qI {k : IntKind} {s : Sem Value} {x : Int} {K : Int → Prop} (h : ∀ w, s.run P w = .ok (.int k x) w) (hK : K x) : rq P s w fun v => fI k v K := rq_r h (fi hK)
theorem qB {s : Sem Value} {x : Bool} {K : Bool → Prop} (h : ∀ w, s.run P w = .ok (.bool x) w) (hK : K x) : rq P s w fun v => fB v K := rq_r h (fb hK)
theorem qT {s : Sem Value} {x : ByteArray} {K : ByteArray → Prop} (h : ∀ w, s.run P w = .ok (.string x) w) (hK : K x) : rq P s w fun v => fT v K := rq_r h (ft hK)
theorem qL {s : Sem Value} {a : Option Addr} {n c : Nat} {K : Option Addr → Nat → Nat → Prop} (h : ∀ w, s.run P w = .ok (.slice a n c) w) (hK : K a n c) : rq P s w fun v => fS v K := rq_r h (fs hK)
theorem qSI {k : IntKind} {s : Sem Value} {x : Int} {K : Int → Prop} (h : ∀ w, s.run P w = .ok (.int k x) w) (hK : K x) : rqS P S s fun v => fI k v K := rqS_r h (fi hK)
theorem qSB {s : Sem Value} {x : Bool} {K : Bool → Prop} (h : ∀ w, s.run P w = .ok (.bool x) w) (hK : K x) : rqS P S s fun v => fB v K := rqS_r h (fb hK)
theorem qST {s : Sem Value} {x : ByteArray} {K : ByteArray → Prop} (h : ∀ w, s.run P w = .ok (.string x) w) (hK : K x) : rqS P S s fun v => fT v K := rqS_r h (ft hK)
theorem qSL {s : Sem Value} {a : Option Addr} {n c : Nat} {K : Option Addr → Nat → Nat → Prop} (h : ∀ w, s.run P w = .ok (.slice a n c) w) (hK : K a n c) : rqS P S s fun v => fS v K := rqS_r h (fs hK)
/-- string(bytes), of a block that holds just these bytes. -/
theorem bsT {b n c : Nat} {l : List UInt8} {T d : TypeId} {K : ByteArray → World → Prop} (h : At w b (by_ l) T) (hl : l.length = n) (hK : K (mkS l) w)
    (ht : isBytes P t = true := by kernel_rfl) (hd : isStr P d = true := by kernel_rfl) : rv P (convert t d (.slice (some ⟨b, 0, none⟩) n c)) w fun v w' => fT v fun s => K s w' :=
  bs_str (.inr ⟨_, rfl, fun j hj => by rw [add_mk, h.cell, Nat.zero_add]⟩) hl (ft hK) ht hd
/-- string(bytes), of a slice of the code's own. -/
theorem slT {a : Option Addr} {n c : Nat} {l : List UInt8} {e d : TypeId} {K : ByteArray → World → Prop} (h : Sl w e 1 a n c (by_ l)) (hl : l.length = n) (hK : K (mkS l) w)
    (ht : isBytes P t = true := by kernel_rfl) (hd : isStr P d = true := by kernel_rfl) : rv P (convert t d (.slice a n c)) w fun v w' => fT v fun s => K s w' :=
  bs_str h.reads hl (ft hK) ht hd
/-- make([]byte, n) -/
theorem mkB {k k' : IntKind} {n : Nat} {K : Option Addr → Nat → Nat → World → Prop} (e : TypeId) (h1 : n ≤ 1000000)
    (hK : ∀ b w', b = w.heap.size → At w' b (by_ (List.replicate n 0)) e → Ext w w' (fun _ => False) → w'.heap.size = w.heap.size + 1 → K (some ⟨b, 0, none⟩) n n w')
    (hu : P.underlying t = some (.slice e) := by kernel_rfl) (hti : tiB P e 1 = true := by kernel_rfl) (hz : zeroL P e = [.int .u8 0] := by kernel_rfl) :
    rv P (Instr.makeSlice t (.int k (n : Int)) (.int k' (n : Int))) w fun v w' => fS v fun a n c => K a n c w' := by
  refine mk_i e 1 (by omega) (by omega) (fun b w' hb a e' z => fs ?_) hu hti
  rw [Int.toNat_natCast] at *
  rw [hz, zeros_one] at a
  refine hK b w' hb ?_ e' z
  rw [show by_ (List.replicate n 0) = List.replicate n (Value.int .u8 0) by simp [by_]]
  exact a
/-- An element of an array value, of one cell. -/
theorem ag_x {k : IntKind} {l : List Value} {v : Value} (i n : Nat) (e : TypeId) (hi : i < n) (hl : l[i]? = some v) (hu : P.underlying t = some (.array n e) := by kernel_rfl) (hs : sizeT P e = 1 := by kernel_rfl) (hh : hasT P e = true := by kernel_rfl) (hc : isScal P e = true := by kernel_rfl) :
    ∀ w, (Instr.index t (.agg l.toArray) (.int k (i : Int))).run P w = .ok v w := by
  intro w
  unfold Instr.index
  simp only [asIntOf, Sem.run_bind, Sem.run_pure, Result.andThen, run_underlying_ok hu]
  rw [if_pos ⟨by omega, by omega⟩, Sem.run_bind, run_sizeOf hs hh]
  simp only [Result.andThen, Int.toNat_natCast, Nat.mul_one]
  unfold part
  rw [Sem.run_bind, run_isAgg_false hc]
  simp [Result.andThen, hl]
end

/-- The number of a bit of Int, known to be no less than 0. -/
theorem nat_of {x : Int} (h : 0 ≤ x) : ∃ n : Nat, x = (n : Int) := ⟨x.toNat, by omega⟩
theorem u8_of {x : Int} (h0 : 0 ≤ x) (h1 : x ≤ 255) : ∃ c : UInt8, x = (c.toNat : Int) := ⟨UInt8.ofNat x.toNat, by rw [UInt8.toNat_ofNat']; omega⟩
theorem wrap_nat {n : Nat} (h : n ≤ 1000000000000) : IntKind.wrap .i64 (n : Int) = (n : Int) := wrap_i64 (by omega) (by omega)
theorem inc_nat {n : Nat} (h : n ≤ 1000000000000) : IntKind.wrap .i64 ((n : Int) + 1) = ((n + 1 : Nat) : Int) := by rw [wrap_i64 (by omega) (by omega)]; rfl
end Go.Ev

/-
  More rules: slices held against nil, copy, clones, a slice of a slice. Of any program; no condition.
-/
namespace Go.Ev
open Go

section
variable {P : Program} {w : World} {t : TypeId}

theorem run_eqGuard_sl {op : BinOp} {x y : Operand} {a b : Option Addr} {n c n' c' : Nat} : (eqGuard op t x y (.slice a n c) (.slice b n' c')).run P w = .ok () w := by
  unfold eqGuard
  cases op <;> rfl
theorem run_equal_slnil {a : Option Addr} {n c : Nat} (ht : isSlT P t = true) : (Op.equal t (.slice a n c) (.slice none 0 0)).run P w = .ok a.isNone w := by
  unfold isSlT at ht
  cases hu : P.underlying t with
  | none => rw [hu] at ht; cases ht
  | some d =>
    rw [hu] at ht
    cases d <;> first | cases ht | skip
    unfold Op.equal Op.maxDepth Op.equalIn
    rw [Sem.run_bind, run_underlying_ok hu]
    cases a <;> rfl
/-- s == nil -/
theorem sl_nil {x y : Operand} {a : Option Addr} {n c : Nat} (ht : isSlT P t = true := by kernel_rfl) :
    ∀ w, (do eqGuard .eql t x y (.slice a n c) (.slice none 0 0); binOp .eql t (.slice a n c) (.slice none 0 0) : Sem Value).run P w = .ok (.bool a.isNone) w := by
  intro w
  rw [Sem.run_bind, run_eqGuard_sl]
  simp only [Result.andThen, binOp]
  rw [Sem.run_bind, run_equal_slnil ht]
  rfl

/-- []byte(s) -/
theorem str_bs {l : List UInt8} {d : TypeId} {K : Value → World → Prop} (e : TypeId) (hK : ∀ b c w', b = w.heap.size → Sl w' e 1 (some ⟨b, 0, none⟩) l.length c (by_ l) → Ext w w' (fun _ => False) → K (.slice (some ⟨b, 0, none⟩) l.length c) w')
    (hs : isStr P t = true := by kernel_rfl) (hd : P.underlying d = some (.slice e) := by kernel_rfl) (he : P.underlying e = some (.int .u8) := by kernel_rfl) : rv P (convert t d (.string (mkS l))) w K := by
  have hc : l.length ≤ grownCap w (mkS l).size 0 e := by
    rw [mkS_size]
    exact Nat.le_add_right _ _
  generalize hcp : grownCap w (mkS l).size 0 e = cap at *
  refine ⟨_, _, run_bytes_of_string w t d e (mkS l) (isStr_eq hs) hd he, ?_⟩
  rw [hcp, mkS_size]
  have hrow : bytesRow (mkS l) cap = (by_ l ++ List.replicate (cap - l.length) (Value.int .u8 0)).toArray := by
    unfold bytesRow
    rw [mkS_size]
    simp [by_, mkS]
  rw [hrow]
  generalize hro : by_ l ++ List.replicate (cap - l.length) (Value.int .u8 0) = row
  have hh : ∀ o : Obj, (w.drew.alloc o).heap = w.heap.push o := fun o => rfl
  refine hK w.heap.size cap _ rfl (.inr ⟨w.heap.size, List.replicate (cap - l.length) (Value.int .u8 0), rfl, ?_, by rw [by_length, Nat.mul_one], by rw [List.length_replicate, Nat.mul_one], hc⟩) ⟨rfl, rfl, rfl, by rw [hh]; simp, fun b hb _ => ?_⟩
  · rw [hro]
    refine ⟨_, by rw [hh, Array.getElem?_push, if_pos rfl], .inr ?_⟩
    simp
  · rw [hh, Array.getElem?_push, if_neg (by omega)]

/-- copy(dst, src), the same number of elements. -/
theorem cp_sl {b n c xc : Nat} {xa : Option Addr} {xs vs : List Value} {t2 t3 : TypeId} {K : Value → World → Prop} (e : TypeId) (m : Nat) (hs : Sl w e m (some ⟨b, 0, none⟩) n c xs) (hx : Reads w xa vs) (hl : vs.length = n * m) (hone : ∀ v ∈ vs, one v = true)
    (hK : ∀ w', Sl w' e m (some ⟨b, 0, none⟩) n c vs → Ext w w' (· = b) → w'.heap.size = w.heap.size → K (.int .i64 (n : Int)) w')
    (hu : P.underlying t = some (.slice e) := by kernel_rfl) (hm : sizeT P e = m := by kernel_rfl) (hh : hasT P e = true := by kernel_rfl) :
    rv P (Builtin.copy_ #[t, t2] t3 #[.slice (some ⟨b, 0, none⟩) n c, .slice xa n xc]) w K := by
  rcases hs with ⟨h, _⟩ | ⟨b', sp, hb, h1, h2, h3, h4⟩
  · cases h
  simp only [Option.some.injEq, Addr.mk.injEq, and_true] at hb
  subst hb
  obtain ⟨w', hr, ha, he, hz⟩ := run_storeCells (P := P) (b := b) (o := 0) vs (xs ++ sp) w 0 h1 hone (by rw [List.length_append]; omega)
  have hsp : splice (xs ++ sp) 0 vs = vs ++ sp := by
    rw [splice_eq _ _ _ (by rw [List.length_append]; omega)]
    simp only [List.take_zero, List.nil_append, Nat.zero_add]
    rw [hl, ← h2, List.drop_left]
  refine ⟨.int .i64 (n : Int), w', ?_, hK w' (.inr ⟨b, sp, rfl, ?_, hl, h3, h4⟩) he hz⟩
  · unfold Builtin.copy_
    simp only [List.getElem?_toArray, List.getElem?_cons_zero, List.getElem?_cons_succ, Sem.run_bind, run_underlying_ok hu, Result.andThen, Builtin.lenOf, Sem.run_pure, run_sizeOf hm hh]
    rw [show Nat.min n n = n from Nat.min_self n, run_firstCells hx hl]
    simp only [Result.andThen, Sem.run_bind]
    rw [hr]
    rfl
  · rw [← hsp]; exact ha
theorem Sl.one_block {w : World} {e : TypeId} {m : Nat} {a : Option Addr} {n c : Nat} {xs : List Value} (h : Sl w e m a n c xs) (hn : 0 < n) : ∃ b, a = some ⟨b, 0, none⟩ := by
  rcases h with ⟨_, h0, _⟩ | ⟨b, sp, rfl, _⟩
  · omega
  · exact ⟨b, rfl⟩
theorem Sl.at_ {w : World} {e : TypeId} {m b n c : Nat} {xs : List Value} (h : Sl w e m (some ⟨b, 0, none⟩) n c xs) : ∃ sp, At w b (xs ++ sp) e ∧ xs.length = n * m ∧ sp.length = (c - n) * m ∧ n ≤ c := by
  rcases h with ⟨h, _⟩ | ⟨b', sp, hb, h1, h2, h3, h4⟩
  · cases h
  simp only [Option.some.injEq, Addr.mk.injEq, and_true] at hb
  subst hb
  exact ⟨sp, h1, h2, h3, h4⟩
theorem Sl.len_ {w : World} {e : TypeId} {m : Nat} {a : Option Addr} {n c : Nat} {xs : List Value} (h : Sl w e m a n c xs) : xs.length = n * m := by
  rcases h with ⟨_, rfl, _, rfl⟩ | ⟨b, sp, rfl, _, h, _⟩
  · simp
  · exact h
theorem Sl.lt {w : World} {e : TypeId} {m b n c : Nat} {xs : List Value} (h : Sl w e m (some ⟨b, 0, none⟩) n c xs) : b < w.heap.size := by
  obtain ⟨sp, h, _⟩ := h.at_
  exact h.lt
/-- One cell of a slice of the code's own is loaded. -/
theorem slL {b n c o : Nat} {xs : List Value} {e : TypeId} {m : Nat} {v : Value} {K : Value → Prop} (h : Sl w e m (some ⟨b, 0, none⟩) n c xs) (hc : xs[o]? = some v) (hK : K v) (ht : isScal P t = true := by kernel_rfl) : ld P t ⟨b, o, none⟩ w K := by
  obtain ⟨sp, h1, _⟩ := h.at_
  refine ld_i h1 ?_ hK ht
  rcases Nat.lt_or_ge o xs.length with h2 | h2
  · rw [List.getElem?_append_left h2]; exact hc
  · rw [List.getElem?_eq_none h2] at hc; cases hc
/-- One cell of a slice of the code's own is written. -/
theorem slS {b n c o : Nat} {xs : List Value} {e : TypeId} {m : Nat} {v : Value} {K : World → Prop} (h : Sl w e m (some ⟨b, 0, none⟩) n c xs) (ho : o < xs.length)
    (hK : ∀ w', Sl w' e m (some ⟨b, 0, none⟩) n c (xs.set o v) → Ext w w' (· = b) → w'.heap.size = w.heap.size → K w') (hv : one v = true := by rfl) (hs : sizeT P t = 1 := by kernel_rfl) (hh : hasT P t = true := by kernel_rfl) : st P t ⟨b, o, none⟩ v w K := by
  obtain ⟨sp, h1, h2, h3, h4⟩ := h.at_
  refine st_i h1 (by rw [List.length_append]; omega) (fun w' a e z => hK w' ?_ e z) hv hs hh
  rw [List.set_append_left _ _ ho] at a
  exact .inr ⟨b, sp, rfl, a, by rw [List.length_set]; exact h2, h3, h4⟩
theorem Reads.ext {w w' : World} {a : Option Addr} {vs : List Value} {X : Nat → Prop} (h : Reads w a vs) (he : Ext w w' X) (hx : ∀ p, a = some p → vs ≠ [] → ¬ X p.block) : Reads w' a vs := by
  by_cases h0 : vs = []
  · exact .inl h0
  rcases h with h | ⟨p, rfl, hc⟩
  · exact .inl h
  · refine .inr ⟨p, rfl, fun j hj => ?_⟩
    have hb : (p.add j).block = p.block := by unfold Addr.add; split <;> rfl
    have h1 := hc j hj
    rw [List.getElem?_eq_getElem hj] at h1
    have hlt := cell_lt h1
    rw [hb] at hlt
    rw [cell_ext he (by rw [hb]; exact hlt) (by rw [hb]; exact hx p rfl h0), h1, List.getElem?_eq_getElem hj]
/-- One cell of a slice that came in. -/
theorem rdL {p : Addr} {o : Nat} {vs : List Value} {v : Value} {K : Value → Prop} (h : Reads w (some p) vs) (hc : vs[o]? = some v) (hK : K v) (ht : isScal P t = true := by kernel_rfl) : ld P t (p.add o) w K := by
  rcases h with rfl | ⟨p', hp, h⟩
  · simp at hc
  · cases hp
    refine ld_c ?_ hK ht
    rcases Nat.lt_or_ge o vs.length with h2 | h2
    · rw [h o h2, hc]
    · rw [List.getElem?_eq_none h2] at hc; cases hc
theorem Reads.some_ {a : Option Addr} {vs : List Value} (h : Reads w a vs) (h0 : 0 < vs.length) : ∃ p, a = some p := by
  rcases h with rfl | ⟨p, rfl, _⟩
  · simp at h0
  · exact ⟨p, rfl⟩
/-- s[i:] -/
theorem sl_from {a : Addr} {n c i : Nat} {k : IntKind} (e : TypeId) (m : Nat) (hi : i ≤ n) (hic : i < c) (hu : P.underlying t = some (.slice e) := by kernel_rfl) (hm : sizeT P e = m := by kernel_rfl) (hh : hasT P e = true := by kernel_rfl) :
    ∀ w, (Instr.sliceAt t (.slice (some a) n c) (some (.int k (i : Int))) none none).run P w = .ok (.slice (some (a.add (i * m))) (n - i) (c - i)) w := by
  intro w
  unfold Instr.sliceAt Instr.slice
  simp only [Sem.run_bind, Result.andThen, run_underlying_ok hu, Instr.sliceBounds, Sem.run_pure, run_sliceBound (show (0 : Int) ≤ (i : Int) by omega) (show (i : Int) ≤ (n : Int) by omega), Int.toNat_natCast, run_sizeOf hm hh, Option.map_some]
  rw [if_neg (by omega)]
/-- s[:i] -/
theorem sl_to {a : Addr} {n c i : Nat} {k : IntKind} (e : TypeId) (hi : i ≤ c) (hu : P.underlying t = some (.slice e) := by kernel_rfl) (hh : hasT P e = true := by kernel_rfl) :
    ∀ w, (Instr.sliceAt t (.slice (some a) n c) none (some (.int k (i : Int))) none).run P w = .ok (.slice (some a) i c) w := by
  intro w
  unfold Instr.sliceAt Instr.slice
  simp only [Sem.run_bind, Result.andThen, run_underlying_ok hu, Instr.sliceBounds, Sem.run_pure, run_sliceBound (show (0 : Int) ≤ (i : Int) by omega) (show (i : Int) ≤ (c : Int) by omega), Int.toNat_natCast, run_sizeOf rfl hh, Option.map_some, Nat.zero_mul, Nat.sub_zero]
  have : a.add 0 = a := by unfold Addr.add; rw [if_pos rfl]
  rw [this, ite_self]
/-- copy(dst, src), into a part of a block. -/
theorem cp_at {b o dn dc xn xc : Nat} {xa : Option Addr} {cs vs : List Value} {T t2 t3 : TypeId} {K : Value → World → Prop} (e : TypeId) (m : Nat) (h : At w b cs T) (hx : Reads w xa vs) (hl : vs.length = min xn dn * m) (ho : o + vs.length ≤ cs.length) (hone : ∀ v ∈ vs, one v = true)
    (hK : ∀ w', At w' b (splice cs o vs) T → Ext w w' (· = b) → w'.heap.size = w.heap.size → K (.int .i64 ((min xn dn : Nat) : Int)) w')
    (hu : P.underlying t = some (.slice e) := by kernel_rfl) (hm : sizeT P e = m := by kernel_rfl) (hh : hasT P e = true := by kernel_rfl) :
    rv P (Builtin.copy_ #[t, t2] t3 #[.slice (some ⟨b, o, none⟩) dn dc, .slice xa xn xc]) w K := by
  obtain ⟨w', hr, ha, he, hz⟩ := run_storeCells (P := P) (b := b) (o := o) vs cs w 0 h hone (by omega)
  refine ⟨.int .i64 ((min xn dn : Nat) : Int), w', ?_, hK w' ha he hz⟩
  unfold Builtin.copy_
  simp only [List.getElem?_toArray, List.getElem?_cons_zero, List.getElem?_cons_succ, Sem.run_bind, run_underlying_ok hu, Result.andThen, Builtin.lenOf, Sem.run_pure, run_sizeOf hm hh]
  rw [show Nat.min xn dn = min xn dn from rfl, run_firstCells hx hl]
  simp only [Result.andThen, Sem.run_bind]
  rw [hr]
  rfl
end
end Go.Ev

/-
  append(s, string...), and make with a capacity. No program; no condition beyond those stated.
-/
namespace Go.Ev
open Go
section
variable {P : Program} {w : World} {t e : TypeId}
theorem run_firstS {l : List UInt8} {vs : List Value} {m xn : Nat} {w : World} (hvs : vs = by_ l) (hxn : xn = l.length) : (Builtin.firstCells m xn (.string (mkS l))).run P w = .ok vs.toArray w := by
  subst hvs hxn
  unfold Builtin.firstCells
  dsimp only
  rw [mkS_extract, List.take_length, List.drop_zero]
  simp only [Sem.run_pure]
  congr 1
  simp [mkS, by_]
theorem ap_gs {a : Option Addr} {n c xn : Nat} {xs vs : List Value} {l : List UInt8} {t2 t3 : TypeId} {K : Value → World → Prop} (e : TypeId) (hs : Sl w e 1 a n c xs) (hvs : vs = by_ l) (hxn : xn = l.length)
    (hbd : n + xn ≤ 4611686018427387904) (hgr : ∀ i, P.info? e = some i → c < n + xn → ¬ (Builtin.nextslicecap (n + xn) c * i.bytes > 2 ^ 48))
    (hK : ∀ a' c' w', Sl w' e 1 a' (n + xn) c' (xs ++ vs) → (∀ b, a' = some ⟨b, 0, none⟩ → a = some ⟨b, 0, none⟩ ∨ w.heap.size ≤ b) → (a.isSome = true → a'.isSome = true) → Ext w w' (fun b => a = some ⟨b, 0, none⟩) → K (.slice a' (n + xn) c') w')
    (hu : P.underlying t = some (.slice e) := by kernel_rfl) (hu2 : isStr P t2 = true := by kernel_rfl) (hti : tiB P e 1 = true := by kernel_rfl) :
    rv P (Builtin.append_ #[t, t2] t3 #[.slice a n c, .string (mkS l)]) w K := by
  obtain ⟨i, hi, hm, hb, ⟨v, hz, hv⟩, hzl⟩ := TI.of hti
  generalize zeroL P e = z at *
  have hd2 : P.underlying t2 = some .string := by
    unfold isStr at hu2
    split at hu2
    · assumption
    · cases hu2
  have hxl : vs.length = xn * 1 := by rw [hvs, by_length, hxn, Nat.mul_one]
  have hone : ∀ v ∈ vs, one v = true := hvs ▸ by_one l
  have hsl : xs.length = n * 1 := by
    rcases hs with ⟨_, rfl, _, rfl⟩ | ⟨b, sp, rfl, h1, h2, _⟩
    · simp
    · exact h2
  by_cases hcap : n + xn ≤ c
  · rcases hs with ⟨rfl, rfl, rfl, rfl⟩ | ⟨b, sp, rfl, h1, h2, h3, h4⟩
    · have hxn : xn = 0 := by omega
      subst hxn
      have hvs : vs = [] := List.eq_nil_of_length_eq_zero (by simpa using hxl)
      subst hvs
      refine ⟨.slice none 0 0, w, ?_, hK none 0 w (.inl ⟨rfl, rfl, rfl, rfl⟩) (fun b h => by cases h) id (Ext.refl _ _)⟩
      unfold Builtin.append_
      simp only [List.getElem?_toArray, List.getElem?_cons_zero, List.getElem?_cons_succ, Sem.run_bind, run_underlying_ok hu, Result.andThen, run_sizeOf_i hi, hm, run_underlying_ok hd2, Sem.run_pure, Bool.false_eq_true, if_false, Builtin.lenOf, mkS_size, ← hxn, Bool.not_false, if_true]
      rw [if_pos (Nat.le_refl _)]
      simp only [Sem.run_bind, run_firstS hvs hxn, Result.andThen, Sem.run_pure]
    · have hroom : n * 1 + vs.length ≤ (xs ++ sp).length := by
        rw [List.length_append, h2, h3, hxl]
        have : xn * 1 ≤ (c - n) * 1 := Nat.mul_le_mul_right _ (by omega)
        omega
      obtain ⟨w', hr, ha, he, hz'⟩ := run_storeCells (P := P) (b := b) (o := n * 1) vs (xs ++ sp) w 0 h1 hone (by omega)
      have hsp : splice (xs ++ sp) (n * 1) vs = (xs ++ vs) ++ sp.drop vs.length := by
        rw [splice_eq _ _ _ hroom, ← hsl, List.take_left, List.drop_append]
        simp
      refine ⟨.slice (some ⟨b, 0, none⟩) (n + xn) c, w', ?_, hK _ c w' (.inr ⟨b, sp.drop vs.length, rfl, ?_, ?_, ?_, hcap⟩) (fun b' h => .inl h) id (he.mono fun b' _ h => by subst h; rfl)⟩
      · unfold Builtin.append_
        simp only [List.getElem?_toArray, List.getElem?_cons_zero, List.getElem?_cons_succ, Sem.run_bind, run_underlying_ok hu, Result.andThen, run_sizeOf_i hi, hm, run_underlying_ok hd2, Sem.run_pure, Bool.false_eq_true, if_false, Builtin.lenOf, mkS_size, ← hxn, Bool.not_false, if_true]
        rw [if_pos hcap]
        simp only [Sem.run_bind, run_firstS hvs hxn, Result.andThen, Sem.run_pure, add_mk, Nat.zero_add]
        rw [hr]
      · rw [← hsp]; simpa using ha
      · simp [hsl, hxl, Nat.add_mul]
      · simp only [List.length_drop, h3, hxl]
        rw [← Nat.sub_mul]; congr 1; omega
  · have hncap : c < n + xn := by omega
    have hnext : ¬ (Builtin.nextslicecap (n + xn) c * i.bytes > 2 ^ 48) := hgr i hi hncap
    have hreads : Reads w a xs := hs.reads
    have hreads' : Reads (drew w) a xs := hreads
    generalize hcp : (n + xn) + w.tape w.drawn (.appendCap (n + xn) c e) % (2 ^ 63 - (n + xn)) = cap
    have hcapge : n + xn ≤ cap := by omega
    refine ⟨.slice (some ⟨w.heap.size, 0, none⟩) (n + xn) cap, { drew w with heap := w.heap.push (.cells ((xs ++ vs) ++ zeros z (cap - (n + xn))).toArray e) }, ?_, hK _ cap _ (.inr ⟨w.heap.size, zeros z (cap - (n + xn)), rfl, ?_, ?_, ?_, hcapge⟩) (fun b' h => .inr ?_) (fun _ => rfl) ⟨rfl, rfl, rfl, by simp, fun b' hb' _ => ?_⟩⟩
    · unfold Builtin.append_
      simp only [List.getElem?_toArray, List.getElem?_cons_zero, List.getElem?_cons_succ, Sem.run_bind, run_underlying_ok hu, Result.andThen, run_sizeOf_i hi, hm, run_underlying_ok hd2, Sem.run_pure, Bool.false_eq_true, if_false, Builtin.lenOf, mkS_size, ← hxn, Bool.not_false, if_true]
      rw [if_neg hcap]
      simp only [Sem.run_bind, run_typeInfo_i hi, Result.andThen]
      rw [if_neg (by rintro ⟨h, _⟩; simp [IntKind.max, IntKind.signed, IntKind.bits] at h; omega)]
      simp only [Sem.run_bind, run_typeInfo_i hi, Result.andThen]
      rw [if_neg hnext]
      simp only [Sem.run_bind, choose, Sem.run, Question.forced, Bool.false_eq_true, if_false, Question.cut, hcp]
      have hd : ({ w with drawn := w.drawn + 1 } : World) = drew w := rfl
      rw [hd]
      simp only [Sem.run_bind, run_typeInfo_i hi, Result.andThen, run_askRoom, run_firstCells hreads' hsl, run_firstS hvs hxn, run_zeroValue_i hi hz, hv, zeroCells_eq, run_newRow, Sem.run_pure]
      simp [drew]
      rfl
    · exact ⟨(0, 0), by simp, .inl (Nat.le_refl _)⟩
    · simp [hsl, hxl, Nat.add_mul]
    · rw [zeros_length, hzl]
    · simp only [Option.some.injEq, Addr.mk.injEq, and_true] at h
      omega
    · simp [Array.getElem?_push, Nat.ne_of_lt hb']
/-- append(s, string...), of few bytes. -/
theorem ap_s {a : Option Addr} {n c : Nat} {xs : List Value} {l : List UInt8} {t2 t3 : TypeId} {K : Value → World → Prop} (e : TypeId) (hs : Sl w e 1 a n c xs) (hbd : n + l.length ≤ 1000000000)
    (hK : ∀ a' c' w', Sl w' e 1 a' (n + l.length) c' (xs ++ by_ l) → (∀ b, a' = some ⟨b, 0, none⟩ → a = some ⟨b, 0, none⟩ ∨ w.heap.size ≤ b) → (a.isSome = true → a'.isSome = true) → Ext w w' (fun b => a = some ⟨b, 0, none⟩) → K (.slice a' (n + l.length) c') w')
    (hu : P.underlying t = some (.slice e) := by kernel_rfl) (hu2 : isStr P t2 = true := by kernel_rfl) (hti : tiB P e 1 = true := by kernel_rfl) :
    rv P (Builtin.append_ #[t, t2] t3 #[.slice a n c, .string (mkS l)]) w K := by
  refine ap_gs e hs rfl rfl (by omega) (fun i hi hncap => ?_) hK hu hu2 hti
  obtain ⟨i', hi', hm, hb, _⟩ := TI.of hti
  rw [hi] at hi'
  cases hi'
  have h1 := nextslicecap_le hncap
  have h2 : Builtin.nextslicecap (n + l.length) c * i.bytes ≤ 2000000192 * 4096 := Nat.mul_le_mul (by omega) hb
  omega
/-- make([]T, 0, c) -/
theorem mk_0 {k k' : IntKind} {n : Int} {K : Value → World → Prop} (e : TypeId) (m : Nat) (h0 : 0 ≤ n) (h1 : n ≤ 1000000000)
    (hK : ∀ b w', b = w.heap.size → Sl w' e m (some ⟨b, 0, none⟩) 0 n.toNat [] → Ext w w' (fun _ => False) → w'.heap.size = w.heap.size + 1 → K (.slice (some ⟨b, 0, none⟩) 0 n.toNat) w')
    (hu : P.underlying t = some (.slice e) := by kernel_rfl) (hti : tiB P e m = true := by kernel_rfl) : rv P (Instr.makeSlice t (.int k 0) (.int k' n)) w K := by
  obtain ⟨i, hi, hm, hb, ⟨v, hz, hv⟩, hzl⟩ := TI.of hti
  generalize zeroL P e = z at *
  have hw : IntKind.i64.wrap n = n := wrap_i64 (by omega) (by omega)
  have hw0 : IntKind.i64.wrap 0 = 0 := wrap_i64 (by omega) (by omega)
  have hlarge : ¬ ((i.bytes : Int) * n > 2 ^ 48) := by
    have : (i.bytes : Int) * n ≤ 4096 * 1000000000 := Int.mul_le_mul (by omega) h1 h0 (by omega)
    omega
  have hat : At { w with heap := w.heap.push (.cells (zeros z n.toNat).toArray e) } w.heap.size (zeros z n.toNat) e := ⟨(0, 0), by simp, .inl (Nat.le_refl _)⟩
  refine ⟨_, _, ?_, hK w.heap.size { w with heap := w.heap.push (.cells (zeros z n.toNat).toArray e) } rfl (.inr ⟨w.heap.size, zeros z n.toNat, rfl, by simpa using hat, by simp, by rw [zeros_length, hzl, Nat.sub_zero], Nat.zero_le _⟩) ⟨rfl, rfl, rfl, by simp, fun b hb _ => ?_⟩ (by simp)⟩
  · unfold Instr.makeSlice
    simp only [Sem.run_bind, run_underlying_ok hu, Result.andThen, asInt, asIntOf, Sem.run_pure, run_typeInfo_i hi, hw, hw0]
    rw [if_neg (by simp; omega)]
    simp only [Sem.run_bind, run_askRoom, Result.andThen, run_sizeOf_i hi, hm]
    by_cases hn0 : n.toNat * m = 0
    · rw [if_pos hn0]
      simp only [Sem.run_bind, Sem.run_pure, Result.andThen, run_newRow]
      have : zeros z n.toNat = [] := List.eq_nil_of_length_eq_zero (by rw [zeros_length, hzl]; exact hn0)
      rw [this, hn0, show Array.range 0 = #[] from rfl, Array.map_empty]
      rfl
    · rw [if_neg hn0]
      simp only [Sem.run_bind, Sem.run_pure, Result.andThen, run_zeroValue_i hi hz, run_newRow, hv]
      rw [← hzl, range_map]
      rfl
  · simp [Array.getElem?_push, Nat.ne_of_lt hb]
/-- copy(dst, string), the string as long as dst. -/
theorem cp_s {b o dn dc : Nat} {cs : List Value} {l : List UInt8} {T t2 t3 : TypeId} {K : Value → World → Prop} (e : TypeId) (h : At w b cs T) (hl : l.length = dn) (ho : o + dn ≤ cs.length)
    (hK : ∀ w', At w' b (splice cs o (by_ l)) T → Ext w w' (· = b) → w'.heap.size = w.heap.size → K (.int .i64 (dn : Int)) w')
    (hu : P.underlying t = some (.slice e) := by kernel_rfl) (hm : sizeT P e = 1 := by kernel_rfl) (hh : hasT P e = true := by kernel_rfl) :
    rv P (Builtin.copy_ #[t, t2] t3 #[.slice (some ⟨b, o, none⟩) dn dc, .string (mkS l)]) w K := by
  obtain ⟨w', hr, ha, he, hz⟩ := run_storeCells (P := P) (b := b) (o := o) (by_ l) cs w 0 h (by_one l) (by rw [by_length]; omega)
  refine ⟨.int .i64 (dn : Int), w', ?_, hK w' ha he hz⟩
  unfold Builtin.copy_
  simp only [List.getElem?_toArray, List.getElem?_cons_zero, List.getElem?_cons_succ, Sem.run_bind, run_underlying_ok hu, Result.andThen, Builtin.lenOf, mkS_size, hl, Sem.run_pure, run_sizeOf hm hh]
  rw [show Nat.min dn dn = dn from Nat.min_self dn, run_firstS (vs := by_ l) rfl hl.symm]
  simp only [Result.andThen, Sem.run_bind]
  rw [hr]
  rfl
end
end Go.Ev

/-
  Bytes: and, or, and-not of numbers of eight bits. No program; no condition.
-/
namespace Go.Ev
open Go
theorem ofInt_u8 (x : UInt8) : BitVec.ofInt 8 ((x.toNat : Nat) : Int) = x.toBitVec := by
  rw [BitVec.ofInt_natCast]
  apply BitVec.eq_of_toNat_eq
  rw [BitVec.toNat_ofNat]
  exact Nat.mod_eq_of_lt x.toNat_lt
theorem wrap_bv8 (b : BitVec 8) : IntKind.wrap .u8 ((b.toNat : Nat) : Int) = ((b.toNat : Nat) : Int) := by
  rw [wrap_u8']
  have := b.isLt
  omega
theorem and8 (x y : UInt8) : band .u8 (x.toNat : Int) (y.toNat : Int) = ((x &&& y).toNat : Int) := by
  unfold band
  rw [show IntKind.bits .u8 = 8 from rfl, ofInt_u8, ofInt_u8, wrap_bv8]
  rfl
theorem or8 (x y : UInt8) : bor .u8 (x.toNat : Int) (y.toNat : Int) = ((x ||| y).toNat : Int) := by
  unfold bor
  rw [show IntKind.bits .u8 = 8 from rfl, ofInt_u8, ofInt_u8, wrap_bv8]
  rfl
theorem andNot8 (x y : UInt8) : bandNot .u8 (x.toNat : Int) (y.toNat : Int) = ((x &&& ~~~y).toNat : Int) := by
  unfold bandNot
  rw [show IntKind.bits .u8 = 8 from rfl, ofInt_u8, ofInt_u8, wrap_bv8]
  rfl
theorem xor8 (x y : UInt8) : bxor .u8 (x.toNat : Int) (y.toNat : Int) = ((x ^^^ y).toNat : Int) := by
  unfold bxor
  rw [show IntKind.bits .u8 = 8 from rfl, ofInt_u8, ofInt_u8, wrap_bv8]
  rfl
theorem byte_ne0 (x : UInt8) : (((x.toNat : Nat) : Int) != 0) = decide (x ≠ 0) := by
  by_cases h : x = 0
  · subst h; rfl
  · rw [decide_eq_true h, bne_iff_ne]
    intro hc
    exact h (UInt8.toNat_inj.mp (by show x.toNat = 0; omega))
end Go.Ev

/-
  A struct that is built out of parts; a slice of a slice. Of any program; no condition beyond those stated.
-/
namespace Go.Ev
open Go

theorem foldl_set (off : Nat) : ∀ (vs : List Value) (k : Nat) (cs : List Value), (vs.zipIdx k).foldl (fun (cs : Array Value) (p : Value × Nat) => cs.setIfInBounds (off + p.2) p.1) cs.toArray = (splice cs (off + k) vs).toArray
  | [], k, cs => rfl
  | v :: vs, k, cs => by
    simp only [List.zipIdx_cons, List.foldl_cons, splice]
    have : cs.toArray.setIfInBounds (off + k) v = (cs.set (off + k) v).toArray := by simp
    rw [this, foldl_set off vs (k + 1) _]
    rfl
theorem fill_cons {place : Nat → Option (Nat × Nat)} {i : Nat} {v : Value} {cs : List Value} {rest : List (Nat × Value)} (off : Nat) (vs : List Value) (hp : place i = some (off, vs.length)) (hv : v.cells = vs.toArray) (ho : off + vs.length ≤ cs.length) :
    Instr.fill place cs.toArray ((i, v) :: rest) = Instr.fill place (splice cs off vs).toArray rest := by
  rw [Instr.fill, hp, hv]
  dsimp only
  rw [if_neg (by simp; omega)]
  congr 1
  have hz : vs.toArray.zipIdx = (vs.zipIdx).toArray := by simp
  rw [hz, List.foldl_toArray]
  exact foldl_set off vs 0 cs

section
variable {P : Program} {w : World} {t : TypeId}
theorem bld_run {parts : List (Nat × Value)} {out : Array Value} (fs : Array Field) (pl : Array (Nat × Nat)) (z : Value) (cs : List Value) (hz : peel P (zeroValue t) = some z) (hc : z.cells = cs.toArray) (hu : P.underlying t = some (.struct fs))
    (hp : peel P (fs.mapM fun f => do pure (f.offset, ← sizeOf f.type)) = some pl) (hf : Instr.fill (fun i => pl[i]?) cs.toArray parts = some out) : ∀ w, (Instr.build t parts.toArray).run P w = .ok (.agg out) w := by
  intro w
  unfold Instr.build
  simp only [Sem.run_bind, run_of_peel hz, Result.andThen, run_underlying_ok hu]
  rw [run_of_peel hp]
  dsimp only
  rw [hc, hf]
  rfl
/-- s[i:j] -/
theorem sl_lh {a : Addr} {n c i j : Nat} {k k' : IntKind} (e : TypeId) (m : Nat) (hij : i ≤ j) (hj : j ≤ c) (hic : i < c) (hu : P.underlying t = some (.slice e) := by kernel_rfl) (hm : sizeT P e = m := by kernel_rfl) (hh : hasT P e = true := by kernel_rfl) :
    ∀ w, (Instr.sliceAt t (.slice (some a) n c) (some (.int k (i : Int))) (some (.int k' (j : Int))) none).run P w = .ok (.slice (some (a.add (i * m))) (j - i) (c - i)) w := by
  intro w
  unfold Instr.sliceAt Instr.slice
  simp only [Sem.run_bind, Result.andThen, run_underlying_ok hu, Instr.sliceBounds, Sem.run_pure, run_sliceBound (show (0 : Int) ≤ (j : Int) by omega) (show (j : Int) ≤ (c : Int) by omega), Int.toNat_natCast, run_sliceBound (show (0 : Int) ≤ (i : Int) by omega) (show (i : Int) ≤ (j : Int) by omega), run_sizeOf hm hh, Option.map_some]
  rw [if_neg (by omega)]
/-- s[i:], to the end too. -/
theorem sl_fr {a : Addr} {n c i : Nat} {k : IntKind} (e : TypeId) (m : Nat) (hi : i ≤ n) (hu : P.underlying t = some (.slice e) := by kernel_rfl) (hm : sizeT P e = m := by kernel_rfl) (hh : hasT P e = true := by kernel_rfl) :
    ∀ w, (Instr.sliceAt t (.slice (some a) n c) (some (.int k (i : Int))) none none).run P w = .ok (.slice (some (if c = i then a else a.add (i * m))) (n - i) (c - i)) w := by
  intro w
  unfold Instr.sliceAt Instr.slice
  simp only [Sem.run_bind, Result.andThen, run_underlying_ok hu, Instr.sliceBounds, Sem.run_pure, run_sliceBound (show (0 : Int) ≤ (i : Int) by omega) (show (i : Int) ≤ (n : Int) by omega), Int.toNat_natCast, run_sizeOf hm hh, Option.map_some]
  split <;> rfl
end
theorem Reads.sub {w : World} {a : Addr} {vs : List Value} (i n : Nat) (h : Reads w (some a) vs) : Reads w (some (a.add i)) ((vs.drop i).take n) := by
  rcases h with rfl | ⟨p, hp, h⟩
  · exact .inl (by simp)
  · cases hp
    refine .inr ⟨_, rfl, fun j hj => ?_⟩
    simp only [List.length_take, List.length_drop] at hj
    rw [add_add_, h _ (by omega), List.getElem?_take_of_lt (by omega), List.getElem?_drop]
theorem Reads.take {w : World} {a : Option Addr} {vs : List Value} (n : Nat) (h : Reads w a vs) : Reads w a (vs.take n) := by
  rcases h with rfl | ⟨p, rfl, h⟩
  · exact .inl (by simp)
  · refine .inr ⟨_, rfl, fun j hj => ?_⟩
    simp only [List.length_take] at hj
    rw [h _ (by omega), List.getElem?_take_of_lt (by omega)]
end Go.Ev

/-
  Comparison of arrays of bytes and of structs. Of any program; no condition beyond those stated.
-/
namespace Go.Ev
open Go

section
variable {P : Program} {w : World} {t e : TypeId}
theorem run_partS {xs : List Value} {off : Nat} {v : Value} (hs : isScal P e = true) (h : xs[off]? = some v) : (part e xs.toArray off).run P w = .ok v w := by
  unfold part
  rw [Sem.run_bind, run_isAgg_false hs]
  simp [Result.andThen, h]
theorem run_partG {xs : List Value} {off n : Nat} (hs : isAggT P e = true) (hn : sizeT P e = n) (hh : hasT P e = true) : (part e xs.toArray off).run P w = .ok (.agg ((xs.drop off).take n).toArray) w := by
  unfold part
  rw [Sem.run_bind, run_isAgg_true hs]
  simp only [Result.andThen, if_true]
  rw [Sem.run_bind, run_sizeOf hn hh]
  simp [Result.andThen, List.extract_eq_take_drop]
theorem eqItems_u8 {d : Nat} {a b : List UInt8} (hu : P.underlying e = some (.int .u8)) (hs : isScal P e = true) : ∀ (is : List Nat), (∀ i ∈ is, i < a.length ∧ i < b.length) →
    (Op.eqItems (d + 1) e 1 (by_ a).toArray (by_ b).toArray is).run P w = .ok (is.all fun i => decide (a[i]? = b[i]?)) w
  | [], _ => rfl
  | i :: is, h => by
    obtain ⟨ha, hb⟩ := h i (.head _)
    have ih := eqItems_u8 (d := d) hu hs is fun j hj => h j (.tail _ hj)
    have pa : (part e (by_ a).toArray (i * 1)).run P w = .ok (.int .u8 (a[i].toNat : Int)) w := run_partS hs (by rw [Nat.mul_one, by_get, List.getElem?_eq_getElem ha]; rfl)
    have pb : (part e (by_ b).toArray (i * 1)).run P w = .ok (.int .u8 (b[i].toNat : Int)) w := run_partS hs (by rw [Nat.mul_one, by_get, List.getElem?_eq_getElem hb]; rfl)
    have pe : (Op.equalIn (d + 1) e (.int .u8 (a[i].toNat : Int)) (.int .u8 (b[i].toNat : Int))).run P w = .ok (((a[i].toNat : Int)) == ((b[i].toNat : Int))) w := run_equalIn_int w d e .u8 .u8 _ _ hu
    unfold Op.eqItems
    rw [Sem.run_bind, pa]
    simp only [Result.andThen]
    rw [Sem.run_bind, pb]
    simp only [Result.andThen]
    rw [Sem.run_bind, pe]
    simp only [Result.andThen]
    rw [List.all_cons, List.getElem?_eq_getElem ha, List.getElem?_eq_getElem hb]
    by_cases hc : a[i] = b[i]
    · rw [hc]
      simpa using ih
    · have hne : ¬ ((a[i].toNat : Int) = (b[i].toNat : Int)) := fun h => hc (UInt8.toNat_inj.1 (by omega))
      simp [hc, hne]
/-- [n]byte == [n]byte -/
theorem eq_bytes {d n : Nat} {a b : List UInt8} (e : TypeId) (ha : a.length = n) (hb : b.length = n) (ht : P.underlying t = some (.array n e) := by kernel_rfl) (hu : P.underlying e = some (.int .u8) := by kernel_rfl) (hs : isScal P e = true := by kernel_rfl) (hh : (P.info? e).isSome = true := by kernel_rfl) (hc : P.cellsOf e = 1 := by kernel_rfl) :
    (Op.equalIn (d + 2) t (.agg (by_ a).toArray) (.agg (by_ b).toArray)).run P w = .ok (decide (a = b)) w := by
  obtain ⟨i, hi⟩ := Option.isSome_iff_exists.1 hh
  rw [run_equalIn_array w (d + 1) (by_ a).toArray (by_ b).toArray ht hi, hc, eqItems_u8 hu hs (List.range n) (fun j hj => by rw [List.mem_range] at hj; omega)]
  congr 1
  by_cases h : a = b
  · subst h; simp
  · rw [decide_eq_false h, Bool.eq_false_iff]
    intro hall
    apply h
    apply List.ext_getElem?
    intro j
    by_cases hj : j < n
    · have := List.all_eq_true.1 hall j (List.mem_range.2 hj)
      exact of_decide_eq_true this
    · rw [List.getElem?_eq_none (by omega), List.getElem?_eq_none (by omega)]
theorem eqFields_cons {d : Nat} {xs ys : List Value} {f : Field} {fs : List Field} {a b : Value} {r s : Bool} (hn : (f.name == "_") = false) (ha : (part f.type xs.toArray f.offset).run P w = .ok a w) (hb : (part f.type ys.toArray f.offset).run P w = .ok b w)
    (hr : (Op.equalIn d f.type a b).run P w = .ok r w) (hs : (Op.eqFields d xs.toArray ys.toArray fs).run P w = .ok s w) : (Op.eqFields d xs.toArray ys.toArray (f :: fs)).run P w = .ok (r && s) w := by
  unfold Op.eqFields
  have hn' : f.name ≠ "_" := by
    intro hc
    rw [hc] at hn
    simp at hn
  rw [if_pos hn']
  simp only [Sem.run_bind, ha, hb, hr, Result.andThen]
  cases r
  · rfl
  · simpa using hs
/-- == and != of structs and arrays, from what the comparison gives. -/
theorem agg_eq {x y : Operand} {xs ys : Array Value} {r : Bool} (h : (Op.equalIn 10000 t (.agg xs) (.agg ys)).run P w = .ok r w) (hm : P.eqGuardType P.depth t = false := by kernel_rfl) :
    (do eqGuard .eql t x y (.agg xs) (.agg ys); binOp .eql t (.agg xs) (.agg ys) : Sem Value).run P w = .ok (.bool r) w := by
  rw [Sem.run_bind, run_eqGuard_agg w .eql t x y xs ys hm]
  simp only [Result.andThen]
  rw [run_eql_struct, h]
  rfl
theorem agg_ne {x y : Operand} {xs ys : Array Value} {r : Bool} (h : (Op.equalIn 10000 t (.agg xs) (.agg ys)).run P w = .ok r w) (hm : P.eqGuardType P.depth t = false := by kernel_rfl) :
    (do eqGuard .neq t x y (.agg xs) (.agg ys); binOp .neq t (.agg xs) (.agg ys) : Sem Value).run P w = .ok (.bool (!r)) w := by
  rw [Sem.run_bind, run_eqGuard_agg w .neq t x y xs ys hm]
  simp only [Result.andThen]
  rw [run_neq_struct, h]
  rfl
end
end Go.Ev
