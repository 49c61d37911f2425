/-
  An evaluator of the translated code that computes, for a function's body, the condition under which it returns with a given property; and the proof that the condition suffices ('calls_of_ev'). Of any program; no condition.
-/
import Derived.Orders
import Derived.OrdersHeld
import Derived.StillTail
import Derived.LoopN
import Derived.KernelRfl
namespace Go.Ev
open Go

abbrev Env := List (Nat × Value)

def look : Env → Nat → Option Value
  | [], _ => none
  | (k, v) :: r, t => match Nat.beq k t with
    | true => some v
    | false => look r t

theorem look_cons (k : Nat) (v : Value) (r : Env) (t : Nat) : look ((k, v) :: r) t = match Nat.beq k t with
    | true => some v
    | false => look r t := rfl

/-- fx: what stays as it is; e: what is told since. -/
def look2 (fx e : Env) (t : Nat) : Option Value :=
  match look e t with
  | some v => some v
  | none => look fx t

def opv (fx e : Env) : Operand → Option Value
  | .tmp t => look2 fx e t
  | .const v => some v
  | .global g => some (.pointer (some ⟨g, 0, none⟩))
  | .func f => some (.func (.func f) #[] #[])

def rho (fx e : Env) (x : Operand) : Value :=
  match opv fx e x with
  | some v => v
  | none => undef

def known (fx e : Env) : List Operand → Bool
  | [] => true
  | x :: r => match opv fx e x with
    | some _ => known fx e r
    | none => false

/-- What the walk knows of a frame. -/
structure Knows (N : Nat) (fx e : Env) (a : Act) : Prop where
  size : N ≤ a.tmps.size
  defers : a.defers = []
  at_ : ∀ t v, look2 fx e t = some v → a.tmps.getD t undef = v
  fix : ∀ t v, look fx t = some v → a.tmps.getD t undef = v

theorem look2_cons {fx e : Env} {t s : Nat} {u v : Value} (h : look2 fx ((t, v) :: e) s = some u) : (t = s ∧ v = u) ∨ (t ≠ s ∧ look2 fx e s = some u) := by
  unfold look2 at h
  rw [look_cons] at h
  cases hb : Nat.beq t s with
  | true =>
    rw [hb] at h
    exact .inl ⟨Nat.eq_of_beq_eq_true hb, by simpa using h⟩
  | false =>
    rw [hb] at h
    refine .inr ⟨fun hc => ?_, h⟩
    subst hc
    rw [Nat.beq_refl] at hb
    cases hb

theorem Knows.cons {N : Nat} {fx e : Env} {a : Act} {t : Nat} {v : Value} (h : Knows N fx e a) (hv : a.tmps.getD t undef = v) : Knows N fx ((t, v) :: e) a := by
  refine ⟨h.size, h.defers, fun s u hs => ?_, h.fix⟩
  rcases look2_cons hs with ⟨rfl, rfl⟩ | ⟨_, hs⟩
  · exact hv
  · exact h.at_ s u hs

theorem getD_put {a : Act} {d s : Nat} {v : Value} (hne : d ≠ s) : (a.put (some d) v).tmps.getD s undef = a.tmps.getD s undef := by
  simp only [Act.put, Array.getD_eq_getD_getElem?]
  rw [Array.getElem?_setIfInBounds_ne hne]

theorem Knows.put {N : Nat} {fx e : Env} {a : Act} {d : Nat} {v : Value} (h : Knows N fx e a) (hd : d < N) (hf : look fx d = none) : Knows N fx ((d, v) :: e) (a.put (some d) v) := by
  have hs := h.size
  refine ⟨by simpa [Act.put] using h.size, by simpa [Act.put] using h.defers, fun s u hl => ?_, fun s u hl => ?_⟩
  · rcases look2_cons hl with ⟨rfl, rfl⟩ | ⟨hne, hs⟩
    · have : d < a.tmps.size := by omega
      simp [Act.put, this]
    · rw [getD_put hne]
      exact h.at_ s u hs
  · have hne : d ≠ s := by
      intro hc
      subst hc
      rw [hf] at hl
      cases hl
    rw [getD_put hne]
    exact h.fix s u hl

theorem Knows.eval {N : Nat} {fx e : Env} {a : Act} (h : Knows N fx e a) {x : Operand} {v : Value} (hx : opv fx e x = some v) : a.eval x = v := by
  cases x with
  | tmp t => exact h.at_ t v hx
  | const u => simpa [opv, Act.eval] using hx
  | global g => simpa [opv, Act.eval] using hx
  | func f => simpa [opv, Act.eval] using hx

theorem Knows.rho {N : Nat} {fx e : Env} {a : Act} (h : Knows N fx e a) {x : Operand} (hx : (opv fx e x).isSome = true) : a.eval x = rho fx e x := by
  cases hv : opv fx e x with
  | none => rw [hv] at hx; cases hx
  | some v => rw [h.eval hv]; simp [Ev.rho, hv]

theorem known_mem {fx e : Env} : ∀ {l : List Operand}, known fx e l = true → ∀ x ∈ l, (opv fx e x).isSome = true
  | [], _, x, hx => by cases hx
  | y :: r, h, x, hx => by
    unfold known at h
    split at h
    · rename_i v hv
      cases hx with
      | head => rw [hv]; rfl
      | tail _ hm => exact known_mem h x hm
    · cases h

def notSelect : Op → Bool
  | .select .. => false
  | _ => true

theorem notSelect_ne {o : Op} (h : notSelect o = true) (cs : Array SelectCase) (b : Bool) : o ≠ .select cs b := by
  intro hc; subst hc; cases h

theorem Knows.exec {N : Nat} {fx e : Env} {a : Act} (h : Knows N fx e a) {o : Oper} (hk : known fx e o.op.operands.toList = true) (hs : notSelect o.op = true) :
    execOp a.eval o = execOp (Ev.rho fx e) o :=
  execOp_congr o (fun cs b => notSelect_ne hs cs b) fun x hx => h.rho (known_mem hk x (by simpa using hx))

/-- A part of a run that asks nothing of the world. -/
def peel {α : Type} (P : Program) : Sem α → Option α
  | .pure a => some a
  | .program k => peel P (k P)
  | _ => none

theorem run_of_peel {α : Type} {P : Program} : ∀ {s : Sem α} {v : α}, peel P s = some v → ∀ w, s.run P w = .ok v w
  | .pure a, v, h, w => by simp [peel] at h; simp [Sem.run, h]
  | .program k, v, h, w => by
    have h' : peel P (k P) = some v := by simpa [peel] using h
    simpa [Sem.run] using run_of_peel h' w
  | .load .., _, h, _ | .store .., _, h, _ | .new .., _, h, _ | .shape .., _, h, _ | .freeze .., _, h, _ | .frozen .., _, h, _ | .getObj .., _, h, _
  | .setObj .., _, h, _ | .choose .., _, h, _ | .sys .., _, h, _ | .mark .., _, h, _ | .halt .., _, h, _ => by simp [peel] at h

/- The forms of a value, by a sample. -/
def ex1 : Value → (Value → Prop) → Prop
  | .int k _, F => ∃ x : Int, F (.int k x)
  | .bool _, F => ∃ b : Bool, F (.bool b)
  | .pointer none, F => ∃ p : Option Addr, F (.pointer p)
  | .pointer (some _), F => ∃ p : Addr, F (.pointer (some p))
  | .slice _ _ _, F => ∃ (a : Option Addr) (n c : Nat), F (.slice a n c)
  | .string _, F => ∃ s : ByteArray, F (.string s)
  | .agg _, F => ∃ cs : Array Value, F (.agg cs)
  | _, F => ∃ v : Value, F v

def exs : List Value → (List Value → Prop) → Prop
  | [], F => F []
  | t :: r, F => ex1 t fun x => exs r fun xs => F (x :: xs)

def fit (t : Value) (v : Value) (K : Value → Prop) : Prop :=
  match t with
  | .tuple ts => exs ts.toList fun xs => v = .tuple xs.toArray ∧ K (.tuple xs.toArray)
  | t => ex1 t fun u => v = u ∧ K u

theorem ex1_some {t : Value} {F : Value → Prop} (h : ex1 t F) : ∃ v, F v := by
  unfold ex1 at h
  split at h
  · exact h.elim fun x h => ⟨_, h⟩
  · exact h.elim fun x h => ⟨_, h⟩
  · exact h.elim fun x h => ⟨_, h⟩
  · exact h.elim fun x h => ⟨_, h⟩
  · exact h.elim fun x h => h.elim fun n h => h.elim fun c h => ⟨_, h⟩
  · exact h.elim fun x h => ⟨_, h⟩
  · exact h.elim fun x h => ⟨_, h⟩
  · exact h.elim fun x h => ⟨_, h⟩

theorem exs_some : ∀ {l : List Value} {F : List Value → Prop}, exs l F → ∃ vs, F vs
  | [], _, h => ⟨[], h⟩
  | _ :: _, _, h => (ex1_some h).elim fun x h => (exs_some h).elim fun xs h => ⟨x :: xs, h⟩

theorem fit_of {t v : Value} {K : Value → Prop} (h : fit t v K) : K v := by
  unfold fit at h
  split at h
  · obtain ⟨xs, rfl, hK⟩ := exs_some h; exact hK
  · obtain ⟨u, rfl, hK⟩ := ex1_some h; exact hK

/- What the run meets. -/
def ld (P : Program) (t : TypeId) (a : Addr) (w : World) (K : Value → Prop) : Prop := ∃ v, (loadVar t a).run P w = .ok v w ∧ K v
def st (P : Program) (t : TypeId) (a : Addr) (v : Value) (w : World) (K : World → Prop) : Prop := ∃ w', (storeVar t a v).run P w = .ok () w' ∧ K w'
def rq (P : Program) (s : Sem Value) (w : World) (K : Value → Prop) : Prop := ∃ v, s.run P w = .ok v w ∧ K v
def rv (P : Program) (s : Sem Value) (w : World) (K : Value → World → Prop) : Prop := ∃ v w', s.run P w = .ok v w' ∧ K v w'
def CallE (P : Program) (f : FuncId) (args : Array Value) (w : World) (K : Value → World → Prop) : Prop :=
  Calls P f args w fun en w' => ∃ v, en = .returned v ∧ K v w'
def br (b : Bool) (A B : Prop) : Prop :=
  match b with
  | true => A
  | false => B

def zeroT (P : Program) (t : TypeId) : Value :=
  match P.info? t with
  | some i => match i.zero with
    | some z => z
    | none => undef
  | none => undef

def put (N : Nat) (fx : Env) (d : Option Tmp) (v : Value) (e : Env) (K : Env → Prop) : Prop :=
  match d with
  | none => K e
  | some d => match Nat.blt d N with
    | true => (match look fx d with
      | none => K ((d, v) :: e)
      | some _ => False)
    | false => False

theorem put_knows {N : Nat} {fx : Env} {d : Option Tmp} {v : Value} {e : Env} {K : Env → Prop} {a : Act} (ha : Knows N fx e a) (h : put N fx d v e K) :
    ∃ e', Knows N fx e' (a.put d v) ∧ K e' := by
  unfold put at h
  split at h
  · exact ⟨e, ha, h⟩
  · split at h
    · rename_i hb
      split at h
      · rename_i hf
        exact ⟨_, ha.put (Nat.le_of_ble_eq_true hb) hf, h⟩
      · exact h.elim
    · exact h.elim

/- Two integer operands, of which the second is a constant other than zero where it divides. -/
def plainBin : BinOp → Operand → Bool
  | .quo, .const (.int _ n) | .rem, .const (.int _ n) => !(n == 0)
  | .quo, _ | .rem, _ => false
  | .shl, .const (.int _ n) | .shr, .const (.int _ n) => decide (0 ≤ n)
  | .shl, _ | .shr, _ => false
  | _, _ => true

def scalarT (P : Program) (t : TypeId) : Bool :=
  match zeroT P t with
  | .int .. | .bool _ => true
  | _ => false

def isAggTy (P : Program) (t : TypeId) : Bool :=
  match P.underlying t with
  | some (.struct _) | some (.array ..) => true
  | _ => false
/-- A struct or an array that is built out of parts of more than one cell. -/
def bigPart (P : Program) (t : TypeId) (ps : List (Nat × Operand)) : Bool :=
  match P.underlying t with
  | some (.struct fs) => ps.any fun p => match fs[p.1]? with
    | some f => isAggTy P f.type
    | none => false
  | some (.array _ e) => isAggTy P e
  | _ => false

/-- 0: computes; 1: makes memory; 2: loads; 3: stores; 4: calls; 5: may panic, else computes; 6: anything else. -/
def kindOf (P : Program) : Op → Nat
  | .move _ | .assign _ | .pick .. | .unOp .. | .fieldAddr .. | .extract .. => 0
  | .build t ps => bif bigPart P t ps.toList then 5 else 0
  | .field .. => 5
  | .nilCheck _ => 7
  | .binOp op t _ y _ => bif scalarT P t && plainBin op y then 0 else 5
  | .convert s d _ => bif scalarT P s && scalarT P d then 0 else 6
  | .alloc _ | .box .. => 1
  | .buildSlice .. => 1
  | .load .. => 2
  | .store .. => 3
  | .indexAddr .. | .index .. | .slice .. => 5
  | .call { callee := .value (.func _), .. } => 4
  | .call { callee := .builtin .len, .. } | .call { callee := .builtin .cap, .. } | .call { callee := .builtin .min, .. } | .call { callee := .builtin .max, .. } => 0
  | _ => 6

def isQuiet (P : Program) (o : Op) : Bool :=
  match kindOf P o with
  | 0 | 2 | 5 | 7 => true
  | _ => false

/-- The name of the model's entry that hands its argument back, by its bytes. -/
def sameName : String := ((Extern.AbiNoEscape.rows.map (·.1)).head?).getD ""
theorem next_none : Extern.allNextRows.lookup sameName = none := by kernel_rfl
theorem next_empty : Extern.allNextRows.lookup "" = none := by kernel_rfl
theorem generic_none : Extern.allGenericRows.lookup sameName = none := by kernel_rfl
theorem typed_none : Extern.allTypedRows.lookup sameName = none := by kernel_rfl
theorem rows_same : Extern.allRows.lookup sameName = some Extern.AbiNoEscape.same := by kernel_rfl

/-- The value part of an operation that may panic or that is none of the others. -/
def semOf (fx e : Env) (o : Oper) : Sem Value :=
  match o.op with
  | .binOp op t x y _ => do eqGuard op t x y (rho fx e x) (rho fx e y); binOp op t (rho fx e x) (rho fx e y)
  | .field t x i => Instr.field t (rho fx e x) i
  | .build t ps => Instr.build t (ps.map fun (i, x) => (i, rho fx e x))
  | .indexAddr t x i => Instr.indexAt t (rho fx e x) (rho fx e i)
  | .index t x i => Instr.index t (rho fx e x) (rho fx e i)
  | .slice t x lo hi mx => Instr.sliceAt t (rho fx e x) (lo.map (rho fx e)) (hi.map (rho fx e)) (mx.map (rho fx e))
  | .makeSlice t l c => Instr.makeSlice t (rho fx e l) (rho fx e c)
  | .convert s d x => convert s d (rho fx e x)
  | .call { callee := .builtin .append, args, argTypes } => Builtin.append_ argTypes o.type (args.map (rho fx e))
  | .call { callee := .builtin .copy, args, argTypes } => Builtin.copy_ argTypes o.type (args.map (rho fx e))
  | .call { callee := .builtin .unsafeString, args, argTypes } => Builtin.unsafeString_ argTypes o.type (args.map (rho fx e))
  | .call { callee := .builtin .unsafeSliceData, args, argTypes } => Builtin.unsafeSliceData_ argTypes o.type (args.map (rho fx e))
  | _ => stuck ""

def tagOf (P : Program) (o : Oper) : Value :=
  match o.op with
  | .indexAddr .. => .pointer (some ⟨0, 0, none⟩)
  | .load t _ => zeroT P t
  | _ => zeroT P o.type

def nn (p : Option Addr) (K : Addr → Prop) : Prop :=
  match p with
  | some a => K a
  | none => False

theorem semOf_run {P : Program} {fx e : Env} {o : Oper} {w w' : World} {v : Value} (h : (semOf fx e o).run P w = .ok v w') : (execOp (rho fx e) o).run P w = .ok (.value v) w' := by
  have bindv : ∀ s : Sem Value, s.run P w = .ok v w' → (s >>= fun x => (pure (Next.value x) : Sem Next)).run P w = .ok (.value v) w' := by
    intro s hs
    rw [Sem.run_bind, hs]; rfl
  obtain ⟨dst, op, type, pos, after, guard⟩ := o
  cases op <;> simp only [semOf] at h <;> try (simp [stuck] at h; done)
  case call c =>
    obtain ⟨callee, args, argTypes⟩ := c
    cases callee <;> try (simp [stuck] at h; done)
    rename_i b
    cases b <;> first | (simp [stuck] at h; done) | skip
    all_goals
      simp only [execOp, resolve, Bind.bind, pure, Sem.bind, invoke, builtin]
      exact bindv _ h
  all_goals exact bindv _ h

section
variable (P : Program) (N : Nat) (fx : Env)

/-- An operation that leaves the world as it is. -/
def evQ (o : Oper) (e : Env) (w : World) (K : Env → Prop) : Prop :=
  match kindOf P o.op with
  | 0 => (match peel P (execOp (rho fx e) o) with
    | some (.value v) => put N fx o.dst v e K
    | _ => False)
  | 2 => (match o.op with
    | .load t x => (match rho fx e x with
      | .pointer (some a) => ld P t a w fun v => fit (zeroT P t) v fun v => put N fx o.dst v e K
      | _ => False)
    | _ => False)
  | 5 => rq P (semOf fx e o) w fun v => fit (tagOf P o) v fun v => put N fx o.dst v e K
  | 7 => (match o.op with
    | .nilCheck x => (match rho fx e x with
      | .pointer p => nn p fun a => put N fx o.dst (.pointer (some a)) e K
      | _ => False)
    | _ => False)
  | _ => False

/-- The same, in every world that meets S. -/
def evS (S : World → Prop) (o : Oper) (e : Env) (K : Env → Prop) : Prop :=
  match kindOf P o.op with
  | 0 => (match peel P (execOp (rho fx e) o) with
    | some (.value v) => put N fx o.dst v e K
    | _ => False)
  | 2 => (match o.op with
    | .load t x => (match rho fx e x with
      | .pointer (some a) => ∃ v, (∀ w, S w → (loadVar t a).run P w = .ok v w) ∧ fit (zeroT P t) v fun v => put N fx o.dst v e K
      | _ => False)
    | _ => False)
  | 5 => ∃ v, (∀ w, S w → (semOf fx e o).run P w = .ok v w) ∧ fit (tagOf P o) v fun v => put N fx o.dst v e K
  | 7 => (match o.op with
    | .nilCheck x => (match rho fx e x with
      | .pointer p => nn p fun a => put N fx o.dst (.pointer (some a)) e K
      | _ => False)
    | _ => False)
  | _ => False

def isCall (f : FuncId) : Bool :=
  match P.funcs[f]? with
  | some fn => fn.body.isSome && !(fn.name == "runtime.NumGoroutine")
  | none => false

/-- The entry of the model that hands its argument back. -/
def isSame (f : FuncId) : Bool :=
  match P.funcs[f]? with
  | some fn => fn.body.isNone && fn.name == sameName && fn.origin == ""
  | none => false

/-- An operation that may change the world. C: the functions that may be called. -/
def evL (C : Nat → Bool) (o : Oper) (e : Env) (w : World) (K : Env → World → Prop) : Prop :=
  match kindOf P o.op with
  | 1 => (match (execOp (rho fx e) o).run P w with
    | .ok (.value v) w' => put N fx o.dst v e fun e => K e w'
    | _ => False)
  | 3 => (match o.op with
    | .store t x y => (match rho fx e x with
      | .pointer (some a) => st P t a (rho fx e y) w fun w' => put N fx o.dst undef e fun e => K e w'
      | _ => False)
    | _ => False)
  | 4 => (match o.op with
    | .call { callee := .value (.func f), args, .. } => (match C f with
      | true => CallE P f (args.map (rho fx e)) w fun v w' => fit (zeroT P o.type) v fun v => put N fx o.dst v e fun e => K e w'
      | false => (match isSame P f with
        | true => (match args.toList with
          | [x] => put N fx o.dst (rho fx e x) e fun e => K e w
          | _ => False)
        | false => False))
    | _ => False)
  | 6 => rv P (semOf fx e o) w fun v w' => fit (tagOf P o) v fun v => put N fx o.dst v e fun e => K e w'
  | _ => False

def ready_ (o : Oper) (e : Env) : Bool := known fx e o.op.operands.toList && notSelect o.op

def evOp (C : Nat → Bool) (o : Oper) (e : Env) (w : World) (K : Env → World → Prop) : Prop :=
  match ready_ fx o e with
  | true => (match isQuiet P o.op with
    | true => evQ P N fx o e w fun e => K e w
    | false => evL P N fx C o e w K)
  | false => False

def guardK (ops : Array Oper) (o : Oper) (e : Env) (yes no : Env → Prop) : Prop :=
  match o.guard with
  | none => yes e
  | some (j, want) => match (ops[j]?).bind (·.dst) with
    | none => False
    | some t => match look2 fx e t with
      | some (.bool b) => (match want with
        | true => br b (yes ((t, .bool true) :: e)) (no ((t, .bool false) :: e))
        | false => br b (no ((t, .bool true) :: e)) (yes ((t, .bool false) :: e)))
      | some (.tuple _) => no e
      | _ => False

def evOps (C : Nat → Bool) (ops : Array Oper) : List Oper → Env → World → (Env → World → Prop) → Prop
  | [], e, w, K => K e w
  | o :: r, e, w, K => guardK fx ops o e (fun e => evOp P N fx C o e w fun e w => evOps C ops r e w K) (fun e => put N fx o.dst undef e fun e => evOps C ops r e w K)

def notLoad : Op → Bool
  | .load .. => false
  | _ => true

/-- q: loads may be taken first too. -/
def pickFirst (q : Bool) (ops : Array Oper) (listed : Array Bool) : List Nat → Option Nat
  | [] => none
  | i :: r => match ops[i]? with
    | none => pickFirst q ops listed r
    | some o => match isQuiet P o.op && ((q || notLoad o.op) && Region.free .any ops listed i) with
      | true => some i
      | false => pickFirst q ops listed r

def allOf (F : Nat → Prop) : List Nat → Prop
  | [] => True
  | [i] => F i
  | i :: r => F i ∧ allOf F r

def evAny (C : Nat → Bool) (ops : Array Oper) (S : World → Prop) (q : Bool) : Nat → Array Bool → Env → World → (Env → World → Prop) → Prop
  | 0, listed, e, w, K => (match Region.ready .any ops listed with
    | [] => K e w
    | _ => False)
  | fuel + 1, listed, e, w, K =>
    match Region.ready .any ops listed with
    | [] => K e w
    | i0 :: rs => match pickFirst P q ops listed (i0 :: rs) with
      | some i => (match ops[i]? with
        | none => False
        | some o => guardK fx ops o e
            (fun e => match ready_ fx o e with
              | true => evS P N fx S o e fun e => evAny C ops S q fuel (listed.setIfInBounds i true) e w K
              | false => False)
            (fun e => put N fx o.dst undef e fun e => evAny C ops S q fuel (listed.setIfInBounds i true) e w K))
      | none => allOf (fun i => match ops[i]? with
        | none => False
        | some o => guardK fx ops o e (fun e => evOp P N fx C o e w fun e w => S w ∧ evAny C ops S q fuel (listed.setIfInBounds i true) e w K)
            (fun e => put N fx o.dst undef e fun e => S w ∧ evAny C ops S q fuel (listed.setIfInBounds i true) e w K)) (i0 :: rs)

def firstLoud : List Oper → Nat
  | [] => 0
  | o :: r => match isQuiet P o.op with
    | true => firstLoud r + 1
    | false => 0

def headLen (l : List Oper) : Nat :=
  match Nat.blt (firstLoud P l) l.length with
  | true => firstLoud P l
  | false => l.length - 1

def drew (w : World) : World := { w with drawn := w.drawn + 1 }

def drawE (F : (World → Prop) → Prop) : Prop := ∃ S, F S

/- The state of a loop: the slots that are carried from round to round, by samples. -/
def TyOf : Value → Type
  | .int _ _ => Int
  | .bool _ => Bool
  | .pointer none => Option Addr
  | .pointer (some _) => Addr
  | .slice _ _ _ => Option Addr × Nat × Nat
  | .string _ => ByteArray
  | .agg _ => Array Value
  | _ => Value

def mkV : (t : Value) → TyOf t → Value
  | .int k _, x => .int k x
  | .bool _, x => .bool x
  | .pointer none, x => .pointer x
  | .pointer (some _), x => .pointer (some x)
  | .slice _ _ _, x => .slice x.1 x.2.1 x.2.2
  | .string _, x => .string x
  | .agg _, x => .agg x
  | .float _ _, x => x
  | .complex _ _ _, x => x
  | .map _, x => x
  | .chan _, x => x
  | .func _ _ _, x => x
  | .nilFunc, x => x
  | .iface _ _, x => x
  | .nilIface, x => x
  | .tuple _, x => x

def sameKind (k k' : IntKind) : Bool := decide (k = k')

def fitT : (t : Value) → Value → (TyOf t → Prop) → Prop
  | .int k _, v, F => (match v with
    | .int k' x => (match sameKind k' k with
      | true => F x
      | false => False)
    | _ => False)
  | .bool _, v, F => (match v with
    | .bool x => F x
    | _ => False)
  | .pointer none, v, F => (match v with
    | .pointer x => F x
    | _ => False)
  | .pointer (some _), v, F => (match v with
    | .pointer x => nn x F
    | _ => False)
  | .slice _ _ _, v, F => (match v with
    | .slice a n c => F (a, n, c)
    | _ => False)
  | .string _, v, F => (match v with
    | .string x => F x
    | _ => False)
  | .agg _, v, F => (match v with
    | .agg x => F x
    | _ => False)
  | .float _ _, v, F => F v
  | .complex _ _ _, v, F => F v
  | .map _, v, F => F v
  | .chan _, v, F => F v
  | .func _ _ _, v, F => F v
  | .nilFunc, v, F => F v
  | .iface _ _, v, F => F v
  | .nilIface, v, F => F v
  | .tuple _, v, F => F v

theorem nn_some {p : Option Addr} {K : Addr → Prop} (h : nn p K) : ∃ a, p = some a ∧ K a := by
  cases p with
  | none => exact h.elim
  | some a => exact ⟨a, rfl, h⟩

theorem fitT_some {t v : Value} {F : TyOf t → Prop} (h : fitT t v F) : ∃ x, v = mkV t x ∧ F x := by
  unfold fitT at h
  split at h
  · split at h
    · split at h
      · rename_i hk
        have hk' := of_decide_eq_true hk
        subst hk'
        exact ⟨_, rfl, h⟩
      · exact h.elim
    · exact h.elim
  · split at h
    · exact ⟨_, rfl, h⟩
    · exact h.elim
  · split at h
    · exact ⟨_, rfl, h⟩
    · exact h.elim
  · split at h
    · obtain ⟨a, rfl, ha⟩ := nn_some h
      exact ⟨_, rfl, ha⟩
    · exact h.elim
  · split at h
    · exact ⟨_, rfl, h⟩
    · exact h.elim
  · split at h
    · exact ⟨_, rfl, h⟩
    · exact h.elim
  · split at h
    · exact ⟨_, rfl, h⟩
    · exact h.elim
  all_goals exact ⟨_, rfl, h⟩

def Tup : Env → Type
  | [] => Unit
  | (_, t) :: r => TyOf t × Tup r

def embed : (L : Env) → Tup L → Env
  | [], _ => []
  | (k, t) :: r, s => (k, mkV t s.1) :: embed r s.2

def projE : (L : Env) → Env → (Tup L → Prop) → Prop
  | [], _, F => F ()
  | (k, t) :: r, e, F => match look2 fx e k with
    | none => False
    | some v => fitT t v fun x => projE r e fun s => F (x, s)

theorem projE_some {a : Act} : ∀ {L e : Env} {F : Tup L → Prop}, Knows N fx e a → projE fx L e F → ∃ s, (∀ t v, look (embed L s) t = some v → a.tmps.getD t undef = v) ∧ F s
  | [], e, F, ha, h => ⟨(), fun t v h => (by simp [embed, look] at h), h⟩
  | (k, t) :: r, e, F, ha, h => by
    unfold projE at h
    split at h
    · exact h.elim
    · rename_i v hv
      obtain ⟨x, hx, h'⟩ := fitT_some h
      obtain ⟨s, hs, hF⟩ := projE_some ha h'
      refine ⟨(x, s), fun t' v' hl => ?_, hF⟩
      replace hl : look ((k, mkV t x) :: embed r s) t' = some v' := hl
      rw [look_cons] at hl
      split at hl
      · rename_i hb
        have hb := Nat.eq_of_beq_eq_true hb
        subst hb
        cases hl
        rw [ha.at_ k v hv, hx]
      · exact hs t' v' hl

def keepE (e : Env) : List Nat → Env → (Env → Prop) → Prop
  | [], acc, F => F acc
  | t :: r, acc, F => match look2 fx e t with
    | some v => keepE e r ((t, v) :: acc) F
    | none => False

theorem keepE_some {a : Act} {e : Env} (ha : Knows N fx e a) : ∀ {l : List Nat} {acc : Env} {F : Env → Prop}, (∀ t v, look acc t = some v → a.tmps.getD t undef = v) → keepE fx e l acc F →
    ∃ g, (∀ t v, look g t = some v → a.tmps.getD t undef = v) ∧ F g
  | [], acc, F, hacc, h => ⟨acc, hacc, h⟩
  | t :: r, acc, F, hacc, h => by
    unfold keepE at h
    split at h
    · rename_i v hv
      refine keepE_some ha (fun t' v' hl => ?_) h
      rw [look_cons] at hl
      split at hl
      · rename_i hb
        have hb := Nat.eq_of_beq_eq_true hb
        subst hb
        cases hl
        exact ha.at_ t v hv
      · exact hacc t' v' hl
    · exact h.elim

theorem look_append {e g : Env} {t : Nat} : look (e ++ g) t = match look e t with | some v => some v | none => look g t := by
  induction e with
  | nil => rfl
  | cons p r ih =>
    obtain ⟨k, v⟩ := p
    rw [List.cons_append, look_cons, look_cons, ih]
    cases Nat.beq k t <;> rfl

/-- A loop: an invariant with a measure that each round lowers. -/
def LoopW {S : Type} (body : S → World → (S → World → Prop) → Prop) (s : S) (w : World) : Prop :=
  ∃ (I : Nat → S → World → Prop) (n : Nat), I n s w ∧ ∀ n s w, I n s w → body s w fun s' w' => ∃ m, m < n ∧ I m s' w'

theorem LoopW.nat {S : Type} {body : S → World → (S → World → Prop) → Prop} {s : S} {w : World} (n : Nat) (J : Nat → S → World → Prop) (h0 : J 0 s w)
    (hr : ∀ k s w next, k ≤ n → J k s w → (k < n → ∀ s' w', J (k + 1) s' w' → next s' w') → body s w next) : LoopW body s w := by
  refine ⟨fun m s w => ∃ k, k + m = n ∧ J k s w, n, ⟨0, by omega, h0⟩, ?_⟩
  rintro m s w ⟨k, hk, hJ⟩
  exact hr k s w _ (by omega) hJ fun hlt s' w' hJ' => ⟨m - 1, by omega, k + 1, by omega, hJ'⟩

def firstRegion : Code → Nat
  | .region i _ _ => i
  | .seq a _ => firstRegion a
  | .block _ c => firstRegion c
  | .loop c => firstRegion c
  | .cond _ a _ => firstRegion a
  | _ => 0

/-- A loop's slots: those that it carries, by samples; those that it leaves as they are. -/
abbrev Ann := List (Nat × Env × List Nat)

def annOf : Ann → Nat → Env
  | [], _ => []
  | (k, L) :: r, i => match Nat.beq k i with
    | true => L.1
    | false => annOf r i

def fixOf : Ann → Nat → List Nat
  | [], _ => []
  | (k, L) :: r, i => match Nat.beq k i with
    | true => L.2
    | false => fixOf r i

/-- A region whose loads are taken in every order: a mark among the notes on loops. -/
def byOrder (A : Ann) (id : Nat) : Bool :=
  match fixOf A (1000000 + id) with
  | [] => true
  | _ => false

abbrev KT := Exit → Env → World → Prop

def thenK (y : Env → World → Prop) (K : KT) : KT
  | .normal, e, w => y e w
  | .exit i, e, w => K (.exit i) e w
  | .ret, e, w => K .ret e w
  | _, _, _ => False

def blockK (id : Nat) (K : KT) : KT
  | .normal, e, w => K .normal e w
  | .exit i, e, w => (match Nat.beq i id with
    | true => K .normal e w
    | false => K (.exit i) e w)
  | .ret, e, w => K .ret e w
  | _, _, _ => False

def loopK (g : Env) (L : Env) (next : Tup L → World → Prop) (K : KT) : KT
  | .normal, e, w => projE (g ++ fx) L e fun s => next s w
  | .exit i, e, w => K (.exit i) (e ++ g) w
  | .ret, e, w => K .ret (e ++ g) w
  | _, _, _ => False

def shadow (c : Operand) (b : Bool) (e : Env) : Env :=
  match c with
  | .tmp t => (t, .bool b) :: e
  | _ => e

def ev (C : Nat → Bool) (A : Ann) : Env → Code → Env → World → KT → Prop
  | _, .skip, e, w, K => K .normal e w
  | _, .label _, e, w, K => K .normal e w
  | fx, .region _ ops false, e, w, K => evOps P N fx C ops ops.toList e w (K .normal)
  | fx, .region id ops true, e, w, K => (match Region.lexTailB .any ops (headLen P ops.toList) with
    | true => evOps P N fx C ops ops.toList e (drew w) (K .normal)
    | false => (match Region.noSelect ops with
      | true => drawE fun S => S (drew w) ∧ evAny P N fx C ops S (byOrder A id) ops.size (Array.replicate ops.size false) e (drew w) (K .normal)
      | false => False))
  | fx, .seq x y, e, w, K => ev C A fx x e w (thenK (fun e w => ev C A fx y e w K) K)
  | fx, .cond c x y, e, w, K => (match opv fx e c with
    | some (.bool b) => br b (ev C A fx x (shadow c true e) w K) (ev C A fx y (shadow c false e) w K)
    | _ => False)
  | fx, .block id c, e, w, K => ev C A fx c e w (blockK id K)
  | fx, .loop c, e, w, K => keepE fx e (fixOf A (firstRegion c)) [] fun g => projE fx (annOf A (firstRegion c)) e fun s =>
      LoopW (fun s w next => ev C A (g ++ fx) c (embed (annOf A (firstRegion c)) s) w (loopK fx g (annOf A (firstRegion c)) next K)) s w
  | _, .exit i, e, w, K => K (.exit i) e w
  | _, .ret, e, w, K => K .ret e w
  | _, _, _, _, _ => False

def resK : List ResultVar → Env → World → (List Value → Prop) → Prop
  | [], _, _, K => K []
  | .tmp t :: r, e, w, K => (match look e t with
    | some v => resK r e w fun vs => K (v :: vs)
    | none => False)
  | .cell a t :: r, e, w, K => (match look e a with
    | some (.pointer (some p)) => ld P t p w fun v => fit (zeroT P t) v fun v => resK r e w fun vs => K (v :: vs)
    | _ => False)

def tupV : List Value → Value
  | [v] => v
  | vs => .tuple vs.toArray

def KQ (rs : List ResultVar) (Q : Value → World → Prop) : KT
  | .normal, e, w => resK P rs e w fun vs => Q (tupV vs) w
  | .ret, e, w => resK P rs e w fun vs => Q (tupV vs) w
  | _, _, _ => False

def enumE : Nat → List Value → Env
  | _, [] => []
  | i, v :: r => (i, v) :: enumE (i + 1) r

end

/- That the conditions suffice. -/
section
variable {P : Program} {N : Nat} {fx : Env} {C : Nat → Bool}

theorem getElem?_of_getD {xs : Array Value} {t : Nat} {b : Bool} (h : xs.getD t undef = .bool b) : xs[t]? = some (.bool b) := by
  rw [Array.getD_eq_getD_getElem?] at h
  cases hx : xs[t]? with
  | none => rw [hx] at h; simp [undef] at h
  | some v => rw [hx] at h; simpa using h

theorem guardK_sound {ops : Array Oper} {o : Oper} {e : Env} {yes no : Env → Prop} {a : Act} (ha : Knows N fx e a) (h : guardK fx ops o e yes no) :
    (Region.wanted o (yielded ops a.tmps) = true ∧ ∃ e', Knows N fx e' a ∧ yes e') ∨ (Region.wanted o (yielded ops a.tmps) = false ∧ ∃ e', Knows N fx e' a ∧ no e') := by
  unfold guardK at h
  split at h
  · rename_i hg
    exact .inl ⟨by simp [Region.wanted, hg], e, ha, h⟩
  · rename_i j want hg
    split at h
    · exact h.elim
    · rename_i t ht
      split at h
      · rename_i b hb
        have hv := ha.at_ _ _ hb
        have hy : yielded ops a.tmps j = some b := by simp [yielded, ht, getElem?_of_getD hv]
        cases b <;> cases want <;> simp only [br] at h
        · exact .inl ⟨by simp [Region.wanted, hg, hy], _, ha.cons hv, h⟩
        · exact .inr ⟨by simp [Region.wanted, hg, hy], _, ha.cons hv, h⟩
        · exact .inr ⟨by simp [Region.wanted, hg, hy], _, ha.cons hv, h⟩
        · exact .inl ⟨by simp [Region.wanted, hg, hy], _, ha.cons hv, h⟩
      · rename_i vs hb
        have hv := ha.at_ _ _ hb
        refine .inr ⟨?_, e, ha, h⟩
        have hy : yielded ops a.tmps j = none := by
          simp only [yielded, ht, Option.bind_some]
          rw [Array.getD_eq_getD_getElem?] at hv
          cases hx : a.tmps[t]? with
          | none => rfl
          | some v => rw [hx] at hv; simp at hv; subst hv; rfl
        simp [Region.wanted, hg, hy]
      · exact h.elim

theorem ready_exec {o : Oper} {e : Env} {a : Act} (ha : Knows N fx e a) (hr : ready_ fx o e = true) : execOp a.eval o = execOp (rho fx e) o := by
  simp only [ready_, Bool.and_eq_true] at hr
  exact ha.exec hr.1 hr.2

theorem run_load {e : Env} {o : Oper} {t : TypeId} {x : Operand} {a : Addr} {v : Value} {w w' : World} (ho : o.op = .load t x) (hx : rho fx e x = .pointer (some a))
    (h : (loadVar t a).run P w = .ok v w') : (execOp (rho fx e) o).run P w = .ok (.value v) w' := by
  unfold execOp
  simp only [ho, hx, Instr.loadAt, Instr.sureAddr]
  show Sem.run P ((loadVar t a) >>= fun x => (pure (Next.value x) : Sem Next)) w = _
  rw [Sem.run_bind, h]; rfl

theorem run_store {e : Env} {o : Oper} {t : TypeId} {x y : Operand} {a : Addr} {w w' : World} (ho : o.op = .store t x y) (hx : rho fx e x = .pointer (some a))
    (h : (storeVar t a (rho fx e y)).run P w = .ok () w') : (execOp (rho fx e) o).run P w = .ok .skip w' := by
  unfold execOp
  simp only [ho, hx, Instr.storeAt, Instr.sureAddr]
  show Sem.run P ((storeVar t a (rho fx e y)) >>= fun _ => (pure Next.skip : Sem Next)) w = _
  rw [Sem.run_bind, h]; rfl

theorem run_nilCheck {e : Env} {o : Oper} {x : Operand} {a : Addr} {w : World} (ho : o.op = .nilCheck x) (hx : rho fx e x = .pointer (some a)) :
    (execOp (rho fx e) o).run P w = .ok (.value (.pointer (some a))) w := by
  unfold execOp
  simp only [ho, hx]
  rfl

theorem evQ_sound {o : Oper} {e : Env} {w : World} {K : Env → Prop} {a : Act} (ha : Knows N fx e a) (hr : ready_ fx o e = true) (h : evQ P N fx o e w K) :
    ∃ v, (execOp a.eval o).run P w = .ok (.value v) w ∧ ∃ e', Knows N fx e' (a.put o.dst v) ∧ K e' := by
  rw [ready_exec ha hr]
  unfold evQ at h
  split at h
  · split at h
    · rename_i v hv
      exact ⟨v, run_of_peel hv w, put_knows ha h⟩
    · exact h.elim
  · split at h
    · rename_i t x ho
      split at h
      · rename_i p hx
        obtain ⟨v, hv, h⟩ := h
        exact ⟨v, run_load ho hx hv, put_knows ha (fit_of h)⟩
      · exact h.elim
    · exact h.elim
  · obtain ⟨v, hv, h⟩ := h
    exact ⟨v, semOf_run hv, put_knows ha (fit_of h)⟩
  · split at h
    · rename_i x ho
      split at h
      · rename_i p hx
        obtain ⟨b, rfl, h⟩ := nn_some h
        exact ⟨_, run_nilCheck ho hx, put_knows ha h⟩
      · exact h.elim
    · exact h.elim
  · exact h.elim

theorem evS_sound {S : World → Prop} {o : Oper} {e : Env} {K : Env → Prop} {a : Act} (ha : Knows N fx e a) (hr : ready_ fx o e = true) (h : evS P N fx S o e K) :
    ∃ v, (∀ w, S w → (execOp a.eval o).run P w = .ok (.value v) w) ∧ ∃ e', Knows N fx e' (a.put o.dst v) ∧ K e' := by
  rw [ready_exec ha hr]
  unfold evS at h
  split at h
  · split at h
    · rename_i v hv
      exact ⟨v, fun w _ => run_of_peel hv w, put_knows ha h⟩
    · exact h.elim
  · split at h
    · rename_i t x ho
      split at h
      · rename_i p hx
        obtain ⟨v, hv, h⟩ := h
        exact ⟨v, fun w hw => run_load ho hx (hv w hw), put_knows ha (fit_of h)⟩
      · exact h.elim
    · exact h.elim
  · obtain ⟨v, hv, h⟩ := h
    exact ⟨v, fun w hw => semOf_run (hv w hw), put_knows ha (fit_of h)⟩
  · split at h
    · rename_i x ho
      split at h
      · rename_i p hx
        obtain ⟨b, rfl, h⟩ := nn_some h
        exact ⟨_, fun w _ => run_nilCheck ho hx, put_knows ha h⟩
      · exact h.elim
    · exact h.elim
  · exact h.elim

theorem run_call {e : Env} {o : Oper} {f : FuncId} {args : Array Operand} {tys : Array TypeId} {w : World} (ho : o.op = .call { callee := .value (.func f), args := args, argTypes := tys })
    (hc : isCall P f = true) : (execOp (rho fx e) o).run P w = .ok (.enter f (args.map (rho fx e))) w := by
  unfold isCall at hc
  split at hc
  · rename_i fn hfn
    simp only [Bool.and_eq_true, Bool.not_eq_true'] at hc
    have hb : fn.body.isNone = false := by
      cases hbb : fn.body with
      | none => rw [hbb] at hc; simp at hc
      | some c => rfl
    unfold execOp
    simp only [ho, resolve, rho, opv, Deferred.ofValue]
    simp only [Bind.bind, pure, Sem.bind, invoke, callFunc, program, Array.append_empty]
    simp only [Sem.run, hfn, hc.2, hb, Bool.false_eq_true, if_false, Array.empty_append]
  · cases hc

theorem run_same {e : Env} {o : Oper} {f : FuncId} {args : Array Operand} {tys : Array TypeId} {w : World} {x : Operand} (ho : o.op = .call { callee := .value (.func f), args := args, argTypes := tys })
    (hc : isSame P f = true) (hx : args.toList = [x]) : (execOp (rho fx e) o).run P w = .ok (.value (rho fx e x)) w := by
  unfold isSame at hc
  split at hc
  · rename_i fn hfn
    simp only [Bool.and_eq_true, beq_iff_eq] at hc
    obtain ⟨⟨hb, hn⟩, ho'⟩ := hc
    have hargs : args = #[x] := by cases args; simp_all
    have h1 : Extern.findNext fn = none := by
      unfold Extern.findNext
      simp only [hn, ho', next_none, next_empty, Option.map_none]
      rfl
    have h2 : Extern.find fn = some Extern.AbiNoEscape.same := by
      unfold Extern.find
      simp only [hn, generic_none, typed_none, rows_same, Option.map_none]
      rfl
    have h3 : (fn.name == "runtime.NumGoroutine") = false := by rw [hn]; kernel_rfl
    subst hargs
    unfold execOp
    simp only [ho, resolve, rho, opv, Deferred.ofValue]
    simp only [Bind.bind, pure, Sem.bind, invoke, callFunc, program, Array.append_empty]
    simp only [Sem.run, hfn, h3, hb, Bool.false_eq_true, if_false, if_true, Array.empty_append, mark, Sem.bind, h1, h2]
    rw [show Array.map (rho fx e) #[x] = #[rho fx e x] by simp]
    rfl
  · cases hc

theorem evL_sound (hC : ∀ f, C f = true → isCall P f = true) {o : Oper} {e : Env} {w : World} {K : Env → World → Prop} {Q : Exit → Act → World → Prop} {a : Act}
    (ha : Knows N fx e a) (hr : ready_ fx o e = true) (h : evL P N fx C o e w K) :
    o.wp P a w (fun a' w' => ∃ e', Knows N fx e' a' ∧ K e' w') Q := by
  unfold Oper.wp
  rw [ready_exec ha hr]
  unfold evL at h
  split at h
  · split at h
    · rename_i v w' hv
      rw [hv]
      exact put_knows ha h
    · exact h.elim
  · split at h
    · rename_i t x y ho
      split at h
      · rename_i p hx
        obtain ⟨w', hv, h⟩ := h
        rw [run_store ho hx hv]
        exact put_knows ha h
      · exact h.elim
    · exact h.elim
  · split at h
    · rename_i f args tys ho
      split at h
      · rename_i hcf
        rw [run_call ho (hC f hcf)]
        refine Calls.mono h fun en w' hen => ?_
        obtain ⟨v, rfl, hv⟩ := hen
        exact put_knows ha (fit_of hv)
      · split at h
        · rename_i hsame
          split at h
          · rename_i x hx
            rw [run_same ho hsame hx]
            exact put_knows ha h
          · exact h.elim
        · exact h.elim
    · exact h.elim
  · obtain ⟨v, w', hv, h⟩ := h
    rw [semOf_run hv]
    exact put_knows ha (fit_of h)
  · exact h.elim

theorem evOp_sound (hC : ∀ f, C f = true → isCall P f = true) {o : Oper} {e : Env} {w : World} {K : Env → World → Prop} {Q : Exit → Act → World → Prop} {a : Act}
    (ha : Knows N fx e a) (h : evOp P N fx C o e w K) : o.wp P a w (fun a' w' => ∃ e', Knows N fx e' a' ∧ K e' w') Q := by
  unfold evOp at h
  split at h
  · rename_i hr
    split at h
    · obtain ⟨v, hv, h⟩ := evQ_sound ha hr h
      unfold Oper.wp
      rw [hv]
      exact h
    · exact evL_sound hC ha hr h
  · exact h.elim

theorem evOps_sound (hC : ∀ f, C f = true → isCall P f = true) {ops : Array Oper} {K : Env → World → Prop} {Q : Exit → Act → World → Prop}
    (hQ : ∀ e a w, Knows N fx e a → K e w → Q .normal a w) : ∀ (l : List Oper) (e : Env) (w : World) (a : Act), Knows N fx e a → evOps P N fx C ops l e w K → wpList P ops Q l a w
  | [], e, w, a, ha, h => hQ e a w ha h
  | o :: r, e, w, a, ha, h => by
    unfold evOps at h
    unfold wpList
    rcases guardK_sound ha h with ⟨hw, e', ha', h'⟩ | ⟨hw, e', ha', h'⟩
    · rw [if_pos hw]
      refine .inl (Oper.wp_mono ?_ (evOp_sound hC ha' h'))
      rintro a1 w1 ⟨e1, ha1, h1⟩
      exact evOps_sound hC hQ r e1 w1 a1 ha1 h1
    · rw [if_neg (by simp [hw])]
      obtain ⟨e1, ha1, h1⟩ := put_knows ha' h'
      exact evOps_sound hC hQ r e1 w _ ha1 h1

theorem evOps_still (hC : ∀ f, C f = true → isCall P f = true) {ops : Array Oper} {K : Env → World → Prop} {Q : Exit → Act → World → Prop}
    (hQ : ∀ e a w, Knows N fx e a → K e w → Q .normal a w) : ∀ (l : List Oper) (n : Nat) (e : Env) (w : World) (a : Act), n ≤ firstLoud P l → Knows N fx e a → evOps P N fx C ops l e w K →
      wpStill P ops w (fun a' => wpList P ops Q (l.drop n) a' w) (l.take n) a
  | l, 0, e, w, a, _, ha, h => by
    simp only [List.drop_zero, List.take_zero]
    exact evOps_sound hC hQ l e w a ha h
  | [], n + 1, e, w, a, hn, ha, h => by simp [firstLoud] at hn
  | o :: r, n + 1, e, w, a, hn, ha, h => by
    unfold firstLoud at hn
    split at hn
    · rename_i hq
      unfold evOps at h
      simp only [List.drop_succ_cons, List.take_succ_cons]
      unfold wpStill
      rcases guardK_sound ha h with ⟨hw, e', ha', h'⟩ | ⟨hw, e', ha', h'⟩
      · rw [if_pos hw]
        unfold evOp at h'
        split at h'
        · rename_i hr
          rw [hq] at h'
          obtain ⟨v, hv, e1, ha1, h1⟩ := evQ_sound ha' hr h'
          unfold Oper.still
          rw [hv]
          exact ⟨rfl, evOps_still hC hQ r n e1 w _ (by omega) ha1 h1⟩
        · exact h'.elim
      · rw [if_neg (by simp [hw])]
        obtain ⟨e1, ha1, h1⟩ := put_knows ha' h'
        exact evOps_still hC hQ r n e1 w _ (by omega) ha1 h1
    · omega

theorem allOf_mem {F : Nat → Prop} : ∀ {l : List Nat}, allOf F l → ∀ i ∈ l, F i
  | [], _, i, hi => by cases hi
  | [j], h, i, hi => by
    have : i = j := by simpa using hi
    subst this; exact h
  | j :: k :: r, h, i, hi => by
    obtain ⟨h1, h2⟩ := h
    cases hi with
    | head => exact h1
    | tail _ hm => exact allOf_mem h2 i hm

theorem pickFirst_spec {q : Bool} {ops : Array Oper} {listed : Array Bool} : ∀ {l : List Nat} {i : Nat}, pickFirst P q ops listed l = some i →
    i ∈ l ∧ ∃ o, ops[i]? = some o ∧ isQuiet P o.op = true ∧ Region.free .any ops listed i = true
  | [], i, h => by simp [pickFirst] at h
  | j :: r, i, h => by
    unfold pickFirst at h
    split at h
    · obtain ⟨h1, h2⟩ := pickFirst_spec h
      exact ⟨.tail _ h1, h2⟩
    · rename_i o ho
      split at h
      · rename_i hb
        cases h
        simp only [Bool.and_eq_true] at hb
        exact ⟨.head _, o, ho, hb.1, hb.2.2⟩
      · obtain ⟨h1, h2⟩ := pickFirst_spec h
        exact ⟨.tail _ h1, h2⟩

theorem evAny_sound {q : Bool} (hC : ∀ f, C f = true → isCall P f = true) {ops : Array Oper} {S : World → Prop} {K : Env → World → Prop} {Q : Exit → Act → World → Prop}
    (hns : Region.noSelect ops = true) (hp : ∀ c a w, ¬ Q (.panic c) a w) (hQ : ∀ e a w, Knows N fx e a → K e w → Q .normal a w) :
    ∀ (fuel : Nat) (listed : Array Bool) (e : Env) (w : World) (a : Act), Knows N fx e a → S w → evAny P N fx C ops S q fuel listed e w K → wpAnyH P .any ops Q S fuel listed a w := by
  intro fuel
  induction fuel with
  | zero =>
    intro listed e w a ha hS h
    unfold evAny at h
    split at h
    · rename_i hr
      exact wpAnyH_done hr (hQ e a w ha h) 0
    · exact h.elim
  | succ fuel ih =>
    intro listed e w a ha hS h
    unfold evAny at h
    split at h
    · rename_i hr
      exact wpAnyH_done hr (hQ e a w ha h) _
    · rename_i i0 rs hr
      split at h
      · rename_i i hi
        obtain ⟨hm, o, ho, hq, hf⟩ := pickFirst_spec hi
        rw [ho] at h
        have hrc : (Region.ready .any ops listed).contains i = true := by rw [hr]; simpa using hm
        rcases guardK_sound ha h with ⟨hw, e', ha', h'⟩ | ⟨hw, e', ha', h'⟩
        · split at h'
          · rename_i hrd
            obtain ⟨v, hv, e1, ha1, h1⟩ := evS_sound ha' hrd h'
            exact wpAnyH_take ho hns hf hrc (fun c a w hh => (hp _ _ _ hh).elim) (.inl ⟨hw, hv⟩) hS (ih _ _ _ _ ha1 hS h1)
          · exact h'.elim
        · obtain ⟨e1, ha1, h1⟩ := put_knows ha' h'
          exact wpAnyH_take ho hns hf hrc (fun c a w hh => (hp _ _ _ hh).elim) (.inr ⟨hw, rfl⟩) hS (ih _ _ _ _ ha1 hS h1)
      · refine wpAnyH_all hr (by simp) fun i hi => ?_
        have h' := allOf_mem h i hi
        unfold wpOp
        split at h'
        · exact h'.elim
        · rename_i o ho
          rw [ho]
          dsimp only
          rcases guardK_sound ha h' with ⟨hw, e', ha', h'⟩ | ⟨hw, e', ha', h'⟩
          · rw [if_pos hw]
            refine .inl (Oper.wp_mono ?_ (evOp_sound hC ha' h'))
            rintro a1 w1 ⟨e1, ha1, hS1, h1⟩
            exact ⟨hS1, ih _ _ _ _ ha1 hS1 h1⟩
          · rw [if_neg (by simp [hw])]
            obtain ⟨e1, ha1, hS1, h1⟩ := put_knows ha' h'
            exact ⟨hS1, ih _ _ _ _ ha1 hS1 h1⟩

def liftK (N : Nat) (fx : Env) (K : KT) : Exit → Act → World → Prop := fun ex a w => (∀ c, ex ≠ .panic c) ∧ ∃ e, Knows N fx e a ∧ K ex e w

theorem headLen_le {l : List Oper} (h : headLen P l < l.length) : headLen P l ≤ firstLoud P l := by
  unfold headLen at *
  split
  · exact Nat.le_refl _
  · rename_i hb
    have : ¬ (firstLoud P l < l.length) := by
      intro hc
      rw [show Nat.blt (firstLoud P l) l.length = true from Nat.ble_eq_true_of_le hc] at hb
      cases hb
    omega

theorem ev_sound (hm : P.follows .mixedOrders = true) (hC : ∀ f, C f = true → isCall P f = true) {A : Ann} :
    ∀ (c : Code) (fx e : Env) (w : World) (K : KT) (a : Act), Knows N fx e a → ev P N C A fx c e w K → c.wp P (liftK N fx K) a w := by
  intro c
  induction c with
  | skip => intro fx e w K a ha h; exact wp_skip ⟨by simp, e, ha, h⟩
  | label l => intro fx e w K a ha h; exact wp_label ⟨by simp, e, ha, h⟩
  | exit i => intro fx e w K a ha h; exact wp_exit ⟨by simp, e, ha, h⟩
  | ret => intro fx e w K a ha h; exact wp_ret ⟨by simp, e, ha, h⟩
  | goto l => intro fx e w K a ha h; exact h.elim
  | refuse y => intro fx e w K a ha h; exact h.elim
  | scope c _ => intro fx e w K a ha h; exact h.elim
  | rangeFunc f ps x y _ _ => intro fx e w K a ha h; exact h.elim
  | region id ops draw =>
    intro fx e w K a ha h
    cases draw with
    | false =>
      exact wp_region_list (evOps_sound hC (Q := liftK N fx K) (fun e a w ha h => ⟨by simp, e, ha, h⟩) _ e w a ha h)
    | true =>
      unfold ev at h
      split at h
      · rename_i hB
        have hlt : headLen P ops.toList < ops.toList.length := by
          simp only [Region.lexTailB, Bool.and_eq_true, decide_eq_true_eq] at hB
          simpa using hB.1.1.1.2
        have := evOps_still hC (Q := liftK N fx K) (fun e a w ha h => ⟨by simp, e, ha, h⟩) ops.toList (headLen P ops.toList) e (drew w) a (headLen_le hlt) ha h
        have h2 := wp_region_still_tail (P := P) (id := id) (Q := liftK N fx K) (a := a) (w := w) (l := ops.toList) (headLen P ops.toList) hm (by simpa using hB) (by simpa [drew] using this)
        simpa using h2
      · split at h
        case h_2 => exact h.elim
        rename_i hns
        obtain ⟨S, hS, h⟩ := h
        exact wp_region_held hm (evAny_sound hC hns (Q := liftK N fx K) (fun c a w hh => hh.1 c rfl) (fun e a w ha h => ⟨by simp, e, ha, h⟩) _ _ e (drew w) a ha hS h)
  | seq x y ihx ihy =>
    intro fx e w K a ha h
    refine wp_seq (wp_mono (ihx fx e w _ a ha h) ?_)
    rintro ex a1 w1 ⟨hne, e1, ha1, h1⟩
    cases ex with
    | normal => exact ihy fx e1 w1 K a1 ha1 h1
    | exit i => exact ⟨hne, e1, ha1, h1⟩
    | ret => exact ⟨hne, e1, ha1, h1⟩
    | goto l => exact h1.elim
    | panic c => exact h1.elim
    | outgrown => exact h1.elim
  | cond c x y ihx ihy =>
    intro fx e w K a ha h
    unfold ev at h
    split at h
    · rename_i b hb
      have hev := ha.eval hb
      cases b with
      | true =>
        refine wp_cond_true hev (ihx fx _ w K a ?_ h)
        cases c <;> first | exact ha.cons hev | exact ha
      | false =>
        refine wp_cond_false hev (ihy fx _ w K a ?_ h)
        cases c <;> first | exact ha.cons hev | exact ha
    · exact h.elim
  | block id c ih =>
    intro fx e w K a ha h
    refine wp_block (wp_mono (ih fx e w _ a ha h) ?_)
    rintro ex a1 w1 ⟨hne, e1, ha1, h1⟩
    cases ex with
    | normal => exact ⟨hne, e1, ha1, h1⟩
    | exit i =>
      simp only [blockK] at h1
      simp only [Exit.inBlock]
      split at h1
      · rename_i hb
        rw [if_pos (Nat.eq_of_beq_eq_true hb)]
        exact ⟨by simp, e1, ha1, h1⟩
      · rename_i hb
        rw [if_neg (fun hc => by subst hc; rw [Nat.beq_refl] at hb; cases hb)]
        exact ⟨hne, e1, ha1, h1⟩
    | ret => exact ⟨hne, e1, ha1, h1⟩
    | goto l => exact h1.elim
    | panic c => exact h1.elim
    | outgrown => exact h1.elim
  | loop c ih =>
    intro fx e w K a ha h
    unfold ev at h
    obtain ⟨g, hg, h⟩ := keepE_some N fx ha (fun t v hl => (by simp [look] at hl)) h
    obtain ⟨s, hs, I, n0, hI, hround⟩ := projE_some N fx ha h
    have hmk : ∀ (s : Tup (annOf A (firstRegion c))) (a' : Act), N ≤ a'.tmps.size → a'.defers = [] → (∀ t v, look (g ++ fx) t = some v → a'.tmps.getD t undef = v) →
        (∀ t v, look (embed (annOf A (firstRegion c)) s) t = some v → a'.tmps.getD t undef = v) → Knows N (g ++ fx) (embed (annOf A (firstRegion c)) s) a' := by
      intro s a' h1 h2 h3 h4
      refine ⟨h1, h2, fun t v hl => ?_, h3⟩
      unfold look2 at hl
      split at hl
      · rename_i u hu
        cases hl
        exact h4 t _ hu
      · exact h3 t v hl
    have hgf : ∀ t v, look (g ++ fx) t = some v → a.tmps.getD t undef = v := by
      intro t v hl
      rw [look_append] at hl
      split at hl
      · rename_i u hu
        cases hl
        exact hg t _ hu
      · exact ha.fix t v hl
    have hout : ∀ (e1 : Env) (a1 : Act), Knows N (g ++ fx) e1 a1 → Knows N fx (e1 ++ g) a1 := by
      intro e1 a1 h1
      refine ⟨h1.size, h1.defers, fun t v hl => h1.at_ t v ?_, fun t v hl => ?_⟩
      · unfold look2 at hl ⊢
        rw [look_append] at hl ⊢
        cases he : look e1 t with
        | some u => rw [he] at hl; exact hl
        | none =>
          rw [he] at hl
          cases hgt : look g t with
          | some u => rw [hgt] at hl; exact hl
          | none => rw [hgt] at hl; exact hl
      · cases hgt : look g t with
        | none => exact h1.fix t v (by rw [look_append, hgt]; exact hl)
        | some u =>
          have hu := h1.fix t u (by rw [look_append, hgt])
          have hva : a.tmps.getD t undef = v := ha.fix t v hl
          have hua : a.tmps.getD t undef = u := hg t u hgt
          rw [hu, ← hua, hva]
    have key : ∀ n m s w a, m < n → Knows N (g ++ fx) (embed (annOf A (firstRegion c)) s) a → I m s w → Code.rounds P c (liftK N fx K) n a w := by
      intro n
      induction n with
      | zero => intro m s w a hn; omega
      | succ n ihn =>
        intro m s w a hn ha hI
        rw [rounds_succ]
        refine wp_mono (ih _ _ w _ a ha (hround m s w hI)) ?_
        rintro ex a1 w1 ⟨hne, e1, ha1, h1⟩
        cases ex with
        | normal =>
          obtain ⟨s1, hs1, m1, hlt, hI1⟩ := projE_some N _ ha1 h1
          exact ihn m1 s1 w1 a1 (by omega) (hmk s1 a1 ha1.size ha1.defers ha1.fix hs1) hI1
        | exit i => exact ⟨hne, _, hout _ _ ha1, h1⟩
        | ret => exact ⟨hne, _, hout _ _ ha1, h1⟩
        | goto l => exact h1.elim
        | panic c => exact h1.elim
        | outgrown => exact h1.elim
    exact wp_loop_rounds (n0 + 1) (key _ n0 s w a (by omega) (hmk s a ha.size ha.defers hgf hs) hI)

theorem enumE_look : ∀ (l : List Value) (i t : Nat) (v : Value), look (enumE i l) t = some v → i ≤ t ∧ l[t - i]? = some v
  | [], i, t, v, h => by simp [enumE, look] at h
  | x :: r, i, t, v, h => by
    unfold enumE look at h
    split at h
    · rename_i hb
      have := Nat.eq_of_beq_eq_true hb
      subst this
      simpa using h
    · obtain ⟨h1, h2⟩ := enumE_look r (i + 1) t v h
      refine ⟨by omega, ?_⟩
      have : t - i = (t - (i + 1)) + 1 := by omega
      rw [this]
      simpa using h2

def resOne (tmps : Array Value) : ResultVar → Sem Value
  | .tmp t => pure (tmps.getD t undef)
  | .cell p t => do loadVar t (← asAddr (tmps.getD p undef))

def resAll (tmps : Array Value) : List ResultVar → Sem (List Value)
  | [] => pure []
  | r :: rs => do let v ← resOne tmps r; let vs ← resAll tmps rs; pure (v :: vs)

theorem mapM_resAll (tmps : Array Value) : ∀ (rs : List ResultVar), rs.mapM (resOne tmps) = resAll tmps rs
  | [] => rfl
  | r :: rs => by rw [List.mapM_cons, mapM_resAll tmps rs]; rfl

theorem look_look2 {fx e : Env} {t : Nat} {v : Value} (h : look e t = some v) : look2 fx e t = some v := by
  unfold look2; rw [h]

theorem resAll_sound {a : Act} {e : Env} {w : World} (ha : Knows N [] e a) : ∀ (rs : List ResultVar) (K : List Value → Prop), resK P rs e w K →
    ∃ vs, K vs ∧ (resAll a.tmps rs).run P w = .ok vs w
  | [], K, h => ⟨[], h, rfl⟩
  | .tmp t :: r, K, h => by
    unfold resK at h
    split at h
    · rename_i v hv
      obtain ⟨vs, hK, hr⟩ := resAll_sound ha r _ h
      refine ⟨v :: vs, hK, ?_⟩
      simp only [resAll, resOne, ha.at_ t v (look_look2 hv), Sem.run_bind, Sem.run_pure, Result.andThen, hr]
    · exact h.elim
  | .cell p t :: r, K, h => by
    unfold resK at h
    split at h
    · rename_i q hq
      obtain ⟨v, hv, h⟩ := h
      obtain ⟨vs, hK, hr⟩ := resAll_sound ha r _ (fit_of h)
      refine ⟨v :: vs, hK, ?_⟩
      simp only [resAll, resOne, ha.at_ p _ (look_look2 hq), asAddr, Sem.run_bind, Sem.run_pure, Result.andThen, hv, hr]
    · exact h.elim

theorem results_sound {fn : Func} {tmps : Array Value} {w : World} {vs : List Value} (h : (resAll tmps fn.results.toList).run P w = .ok vs w) :
    (results fn tmps).run P w = .ok (tupV vs) w := by
  have hres : results fn tmps = (do let vs ← fn.results.mapM (resOne tmps); pure (if h : vs.size = 1 then vs[0] else .tuple vs)) := by
    unfold results
    congr 1
  rw [hres, Array.mapM_eq_mapM_toList, mapM_resAll]
  simp only [Sem.run_bind, map_eq_pure_bind, h, Result.andThen, Sem.run_pure, Result.ok.injEq, and_true]
  match vs with
  | [] => rfl
  | [v] => rfl
  | a :: b :: r => simp [tupV]

/-- The body's condition suffices for the call. -/
theorem calls_of_ev (hm : P.follows .mixedOrders = true) (hC : ∀ f, C f = true → isCall P f = true) {f : FuncId} {fn : Func} {c : Code} {A : Ann} {args : List Value} {w : World}
    {Q : Value → World → Prop} (hf : P.funcs[f]? = some fn) (hb : fn.body = some c)
    (h : ev P fn.ntmps C A [] c (enumE 0 args) w (KQ P fn.results.toList Q)) : CallE P f args.toArray w Q := by
  refine calls_of_wp hf hb ?_
  have hk : Knows fn.ntmps [] (enumE 0 args) { tmps := args.toArray ++ Array.replicate (fn.ntmps - args.toArray.size) undef, defers := [] } := by
    refine ⟨by simp; omega, rfl, fun t v hl => ?_, fun t v hl => (by simp [look] at hl)⟩
    have hl : look (enumE 0 args) t = some v := by
      unfold look2 at hl
      split at hl
      · rename_i u hu
        rw [hu]; exact hl
      · simp [look] at hl
    obtain ⟨_, h2⟩ := enumE_look args 0 t v hl
    have hlt : t < args.length := by
      rcases Nat.lt_or_ge t args.length with hh | hh
      · exact hh
      · simp [List.getElem?_eq_none hh] at h2
    simp only [Nat.sub_zero] at h2
    rw [Array.getD_eq_getD_getElem?, Array.getElem?_append_left (by simpa using hlt)]
    simp [h2]
  refine wp_mono (ev_sound hm hC c _ _ w _ _ hk h) ?_
  rintro ex a w1 ⟨_, e, ha, hK⟩
  cases ex with
  | normal =>
    obtain ⟨vs, hQ, hr⟩ := resAll_sound ha _ _ hK
    exact ⟨ha.defers, _, results_sound hr, _, rfl, hQ⟩
  | ret =>
    obtain ⟨vs, hQ, hr⟩ := resAll_sound ha _ _ hK
    exact ⟨ha.defers, _, results_sound hr, _, rfl, hQ⟩
  | exit i => exact hK.elim
  | goto l => exact hK.elim
  | panic c => exact hK.elim
  | outgrown => exact hK.elim

end
/- Short words for what the conditions say. -/
def fI (k : IntKind) (v : Value) (K : Int → Prop) : Prop := ∃ x : Int, v = .int k x ∧ K x
def fB (v : Value) (K : Bool → Prop) : Prop := ∃ x : Bool, v = .bool x ∧ K x
def fP (v : Value) (K : Option Addr → Prop) : Prop := ∃ x : Option Addr, v = .pointer x ∧ K x
def fA (v : Value) (K : Addr → Prop) : Prop := ∃ x : Addr, v = .pointer (some x) ∧ K x
def fS (v : Value) (K : Option Addr → Nat → Nat → Prop) : Prop := ∃ (a : Option Addr) (n c : Nat), v = .slice a n c ∧ K a n c
def fT (v : Value) (K : ByteArray → Prop) : Prop := ∃ x : ByteArray, v = .string x ∧ K x
def fG (v : Value) (K : Array Value → Prop) : Prop := ∃ x : Array Value, v = .agg x ∧ K x
def fV (v : Value) (K : Value → Prop) : Prop := ∃ x : Value, v = x ∧ K x
def al (t : TypeId) (cs : Array Value) (w : World) (K : Addr → World → Prop) : Prop := K ⟨w.heap.size, 0, none⟩ { w with heap := w.heap.push (.cells cs t) }
def dr (w : World) (K : World → Prop) : Prop := K (drew w)
def ldS (P : Program) (S : World → Prop) (t : TypeId) (a : Addr) (K : Value → Prop) : Prop := ∃ v, (∀ w, S w → (loadVar t a).run P w = .ok v w) ∧ K v
def rqS (P : Program) (S : World → Prop) (s : Sem Value) (K : Value → Prop) : Prop := ∃ v, (∀ w, S w → s.run P w = .ok v w) ∧ K v
def band (k : IntKind) (a b : Int) : Int := k.wrap ((BitVec.ofInt k.bits a &&& BitVec.ofInt k.bits b).toNat)
def bor (k : IntKind) (a b : Int) : Int := k.wrap ((BitVec.ofInt k.bits a ||| BitVec.ofInt k.bits b).toNat)
def bxor (k : IntKind) (a b : Int) : Int := k.wrap ((BitVec.ofInt k.bits a ^^^ BitVec.ofInt k.bits b).toNat)
def bandNot (k : IntKind) (a b : Int) : Int := k.wrap ((BitVec.ofInt k.bits a &&& ~~~BitVec.ofInt k.bits b).toNat)
end Go.Ev
