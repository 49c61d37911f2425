/-
  The rules on memory, strings and numbers, each with the form of its value. Of any program; no condition.
-/
import Derived.Test.YtpgekajgbkbpkaaStr
namespace Go.Ev
open Go

section
variable {P : Program} {w : World} {t : TypeId} {S : World → Prop}

theorem fi {k : IntKind} {x : Int} {K : Int → Prop} (h : K x) : fI k (.int k x) K := ⟨x, rfl, h⟩
theorem fb {x : Bool} {K : Bool → Prop} (h : K x) : fB (.bool x) K := ⟨x, rfl, h⟩
theorem fp {x : Option Addr} {K : Option Addr → Prop} (h : K x) : fP (.pointer x) K := ⟨x, rfl, h⟩
theorem fa {x : Addr} {K : Addr → Prop} (h : K x) : fA (.pointer (some x)) K := ⟨x, rfl, h⟩
theorem fs {a : Option Addr} {n c : Nat} {K : Option Addr → Nat → Nat → Prop} (h : K a n c) : fS (.slice a n c) K := ⟨a, n, c, rfl, h⟩
theorem ft {x : ByteArray} {K : ByteArray → Prop} (h : K x) : fT (.string x) K := ⟨x, rfl, h⟩
theorem fg {x : Array Value} {K : Array Value → Prop} (h : K x) : fG (.agg x) K := ⟨x, rfl, h⟩

theorem ldI {b o : Nat} {cs : List Value} {T : TypeId} {k : IntKind} {x : Int} {K : Int → Prop} (h : At w b cs T) (hc : cs[o]? = some (.int k x)) (hK : K x) (ht : isScal P t = true := by kernel_rfl) : ld P t ⟨b, o, none⟩ w fun v => fI k v K := ld_i h hc (fi hK) ht
theorem ldB {b o : Nat} {cs : List Value} {T : TypeId} {x : Bool} {K : Bool → Prop} (h : At w b cs T) (hc : cs[o]? = some (.bool x)) (hK : K x) (ht : isScal P t = true := by kernel_rfl) : ld P t ⟨b, o, none⟩ w fun v => fB v K := ld_i h hc (fb hK) ht
theorem ldP {b o : Nat} {cs : List Value} {T : TypeId} {x : Option Addr} {K : Option Addr → Prop} (h : At w b cs T) (hc : cs[o]? = some (.pointer x)) (hK : K x) (ht : isScal P t = true := by kernel_rfl) : ld P t ⟨b, o, none⟩ w fun v => fP v K := ld_i h hc (fp hK) ht
theorem ldL {b o : Nat} {cs : List Value} {T : TypeId} {a : Option Addr} {n c : Nat} {K : Option Addr → Nat → Nat → Prop} (h : At w b cs T) (hc : cs[o]? = some (.slice a n c)) (hK : K a n c) (ht : isScal P t = true := by kernel_rfl) : ld P t ⟨b, o, none⟩ w fun v => fS v K := ld_i h hc (fs hK) ht
theorem ldT {b o : Nat} {cs : List Value} {T : TypeId} {x : ByteArray} {K : ByteArray → Prop} (h : At w b cs T) (hc : cs[o]? = some (.string x)) (hK : K x) (ht : isScal P t = true := by kernel_rfl) : ld P t ⟨b, o, none⟩ w fun v => fT v K := ld_i h hc (ft hK) ht
theorem lcI {a : Addr} {k : IntKind} {x : Int} {K : Int → Prop} (hc : w.cell? a = some (.int k x)) (hK : K x) (ht : isScal P t = true := by kernel_rfl) : ld P t a w fun v => fI k v K := ld_c hc (fi hK) ht
theorem lcB {a : Addr} {x : Bool} {K : Bool → Prop} (hc : w.cell? a = some (.bool x)) (hK : K x) (ht : isScal P t = true := by kernel_rfl) : ld P t a w fun v => fB v K := ld_c hc (fb hK) ht
theorem lcL {p : Addr} {a : Option Addr} {n c : Nat} {K : Option Addr → Nat → Nat → Prop} (hc : w.cell? p = some (.slice a n c)) (hK : K a n c) (ht : isScal P t = true := by kernel_rfl) : ld P t p w fun v => fS v K := ld_c hc (fs hK) ht
theorem lcT {a : Addr} {x : ByteArray} {K : ByteArray → Prop} (hc : w.cell? a = some (.string x)) (hK : K x) (ht : isScal P t = true := by kernel_rfl) : ld P t a w fun v => fT v K := ld_c hc (ft hK) ht

/- A place in a slice. -/
theorem ixs {a : Addr} {k : IntKind} {n c : Nat} {K : Addr → Prop} (i m : Nat) (e : TypeId) (h1 : i < n) (hK : K (a.add (i * m)))
    (hu : P.underlying t = some (.slice e) := by kernel_rfl) (hm : sizeT P e = m := by kernel_rfl) (hh : hasT P e = true := by kernel_rfl) : rq P (Instr.indexAt t (.slice (some a) n c) (.int k (i : Int))) w fun v => fA v K :=
  ix_sl m e (by omega) (by omega) (fa (by rw [Int.toNat_natCast]; exact hK)) hu hm hh
/-- A place in a slice that begins at a block's head. -/
theorem ixb {b : Nat} {k : IntKind} {n c : Nat} {K : Addr → Prop} (i m : Nat) (e : TypeId) (h1 : i < n) (hK : K ⟨b, i * m, none⟩)
    (hu : P.underlying t = some (.slice e) := by kernel_rfl) (hm : sizeT P e = m := by kernel_rfl) (hh : hasT P e = true := by kernel_rfl) : rq P (Instr.indexAt t (.slice (some ⟨b, 0, none⟩) n c) (.int k (i : Int))) w fun v => fA v K :=
  ixs i m e h1 (by rw [add_mk, Nat.zero_add]; exact hK) hu hm hh
theorem ixbS {b : Nat} {k : IntKind} {n c : Nat} {K : Addr → Prop} (i m : Nat) (e : TypeId) (h1 : i < n) (hK : K ⟨b, i * m, none⟩)
    (hu : P.underlying t = some (.slice e) := by kernel_rfl) (hm : sizeT P e = m := by kernel_rfl) (hh : hasT P e = true := by kernel_rfl) : rqS P S (Instr.indexAt t (.slice (some ⟨b, 0, none⟩) n c) (.int k (i : Int))) fun v => fA v K :=
  ixS_sl m e (by omega) (by omega) (fa (by rw [Int.toNat_natCast, add_mk, Nat.zero_add]; exact hK)) hu hm hh
theorem ixsS {a : Addr} {k : IntKind} {n c : Nat} {K : Addr → Prop} (i m : Nat) (e : TypeId) (h1 : i < n) (hK : K (a.add (i * m)))
    (hu : P.underlying t = some (.slice e) := by kernel_rfl) (hm : sizeT P e = m := by kernel_rfl) (hh : hasT P e = true := by kernel_rfl) : rqS P S (Instr.indexAt t (.slice (some a) n c) (.int k (i : Int))) fun v => fA v K :=
  ixS_sl m e (by omega) (by omega) (fa (by rw [Int.toNat_natCast]; exact hK)) hu hm hh
/-- A place in an array that fills a block. -/
theorem ixa {b : Nat} {k : IntKind} {K : Addr → Prop} (i n m : Nat) (e : TypeId) (h1 : i < n) (hK : K ⟨b, i * m, none⟩)
    (hu : P.underlying t = some (.array n e) := by kernel_rfl) (hm : sizeT P e = m := by kernel_rfl) (hh : hasT P e = true := by kernel_rfl) : rq P (Instr.indexAt t (.pointer (some ⟨b, 0, none⟩)) (.int k (i : Int))) w fun v => fA v K :=
  ix_arr n m e (by omega) (by omega) (fa (by rw [Int.toNat_natCast, add_mk, Nat.zero_add]; exact hK)) hu hm hh

/- Strings. -/
theorem qI {k : IntKind} {s : Sem Value} {x : Int} {K : Int → Prop} (h : ∀ w, s.run P w = .ok (.int k x) w) (hK : K x) : rq P s w fun v => fI k v K := rq_r h (fi hK)
theorem qB {s : Sem Value} {x : Bool} {K : Bool → Prop} (h : ∀ w, s.run P w = .ok (.bool x) w) (hK : K x) : rq P s w fun v => fB v K := rq_r h (fb hK)
theorem qT {s : Sem Value} {x : ByteArray} {K : ByteArray → Prop} (h : ∀ w, s.run P w = .ok (.string x) w) (hK : K x) : rq P s w fun v => fT v K := rq_r h (ft hK)
theorem qL {s : Sem Value} {a : Option Addr} {n c : Nat} {K : Option Addr → Nat → Nat → Prop} (h : ∀ w, s.run P w = .ok (.slice a n c) w) (hK : K a n c) : rq P s w fun v => fS v K := rq_r h (fs hK)
theorem qSI {k : IntKind} {s : Sem Value} {x : Int} {K : Int → Prop} (h : ∀ w, s.run P w = .ok (.int k x) w) (hK : K x) : rqS P S s fun v => fI k v K := rqS_r h (fi hK)
theorem qSB {s : Sem Value} {x : Bool} {K : Bool → Prop} (h : ∀ w, s.run P w = .ok (.bool x) w) (hK : K x) : rqS P S s fun v => fB v K := rqS_r h (fb hK)
theorem qST {s : Sem Value} {x : ByteArray} {K : ByteArray → Prop} (h : ∀ w, s.run P w = .ok (.string x) w) (hK : K x) : rqS P S s fun v => fT v K := rqS_r h (ft hK)
theorem qSL {s : Sem Value} {a : Option Addr} {n c : Nat} {K : Option Addr → Nat → Nat → Prop} (h : ∀ w, s.run P w = .ok (.slice a n c) w) (hK : K a n c) : rqS P S s fun v => fS v K := rqS_r h (fs hK)
/-- string(bytes), of a block that holds just these bytes. -/
theorem bsT {b n c : Nat} {l : List UInt8} {T d : TypeId} {K : ByteArray → World → Prop} (h : At w b (by_ l) T) (hl : l.length = n) (hK : K (mkS l) w)
    (ht : isBytes P t = true := by kernel_rfl) (hd : isStr P d = true := by kernel_rfl) : rv P (convert t d (.slice (some ⟨b, 0, none⟩) n c)) w fun v w' => fT v fun s => K s w' :=
  bs_str (.inr ⟨_, rfl, fun j hj => by rw [add_mk, h.cell, Nat.zero_add]⟩) hl (ft hK) ht hd
/-- string(bytes), of a slice of the code's own. -/
theorem slT {a : Option Addr} {n c : Nat} {l : List UInt8} {e d : TypeId} {K : ByteArray → World → Prop} (h : Sl w e 1 a n c (by_ l)) (hl : l.length = n) (hK : K (mkS l) w)
    (ht : isBytes P t = true := by kernel_rfl) (hd : isStr P d = true := by kernel_rfl) : rv P (convert t d (.slice a n c)) w fun v w' => fT v fun s => K s w' :=
  bs_str h.reads hl (ft hK) ht hd
/-- make([]byte, n) -/
theorem mkB {k k' : IntKind} {n : Nat} {K : Option Addr → Nat → Nat → World → Prop} (e : TypeId) (h1 : n ≤ 1000000)
    (hK : ∀ b w', b = w.heap.size → At w' b (by_ (List.replicate n 0)) e → Ext w w' (fun _ => False) → w'.heap.size = w.heap.size + 1 → K (some ⟨b, 0, none⟩) n n w')
    (hu : P.underlying t = some (.slice e) := by kernel_rfl) (hti : tiB P e 1 = true := by kernel_rfl) (hz : zeroL P e = [.int .u8 0] := by kernel_rfl) :
    rv P (Instr.makeSlice t (.int k (n : Int)) (.int k' (n : Int))) w fun v w' => fS v fun a n c => K a n c w' := by
  refine mk_i e 1 (by omega) (by omega) (fun b w' hb a e' z => fs ?_) hu hti
  rw [Int.toNat_natCast] at *
  rw [hz, zeros_one] at a
  refine hK b w' hb ?_ e' z
  rw [show by_ (List.replicate n 0) = List.replicate n (Value.int .u8 0) by simp [by_]]
  exact a
/-- An element of an array value, of one cell. -/
theorem ag_x {k : IntKind} {l : List Value} {v : Value} (i n : Nat) (e : TypeId) (hi : i < n) (hl : l[i]? = some v) (hu : P.underlying t = some (.array n e) := by kernel_rfl) (hs : sizeT P e = 1 := by kernel_rfl) (hh : hasT P e = true := by kernel_rfl) (hc : isScal P e = true := by kernel_rfl) :
    ∀ w, (Instr.index t (.agg l.toArray) (.int k (i : Int))).run P w = .ok v w := by
  intro w
  unfold Instr.index
  simp only [asIntOf, Sem.run_bind, Sem.run_pure, Result.andThen, run_underlying_ok hu]
  rw [if_pos ⟨by omega, by omega⟩, Sem.run_bind, run_sizeOf hs hh]
  simp only [Result.andThen, Int.toNat_natCast, Nat.mul_one]
  unfold part
  rw [Sem.run_bind, run_isAgg_false hc]
  simp [Result.andThen, hl]
end

/-- The number of a bit of Int, known to be no less than 0. -/
theorem nat_of {x : Int} (h : 0 ≤ x) : ∃ n : Nat, x = (n : Int) := ⟨x.toNat, by omega⟩
theorem u8_of {x : Int} (h0 : 0 ≤ x) (h1 : x ≤ 255) : ∃ c : UInt8, x = (c.toNat : Int) := ⟨UInt8.ofNat x.toNat, by rw [UInt8.toNat_ofNat']; omega⟩
theorem wrap_nat {n : Nat} (h : n ≤ 1000000000000) : IntKind.wrap .i64 (n : Int) = (n : Int) := wrap_i64 (by omega) (by omega)
theorem inc_nat {n : Nat} (h : n ≤ 1000000000000) : IntKind.wrap .i64 ((n : Int) + 1) = ((n + 1 : Nat) : Int) := by rw [wrap_i64 (by omega) (by omega)]; rfl
end Go.Ev
