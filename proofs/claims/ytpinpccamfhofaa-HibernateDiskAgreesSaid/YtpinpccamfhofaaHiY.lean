/-
  The statement HibernateIsInvisible over the code. No condition beyond those stated.
-/
import Derived.Test.YtpinpccamfhofaaHiX
set_option linter.unusedVariables false
set_option linter.unusedSimpArgs false
set_option maxRecDepth 100000
namespace Go.Proofs.Ytpinpccamfhofaa.Hi
open Go Go.Ev Go.Proofs Go.Proofs.Ytpinpccamfhofaa.Im Go.ChangeShapes Go.WideShapes Go.ChangeAt Go.RowKit
open Go.Proofs.Ytpinpccamfhofaa.Bd (St Sec Dk Ok wr fl rd cut pOff pOn zs all new lose KOk)

/-- A store of a byte into a page. -/
structure Sto where
  page : Int
  pos : Int
  val : UInt8
instance : Inhabited Sto := ⟨⟨0, 0, 0⟩⟩
def stoC (s : Sto) : List Value := [.int .i64 s.page, .int .i64 s.pos, .int .u8 (s.val.toNat : Int)]
theorem stoC_len (s : Sto) : (stoC s).length = 3 := rfl
/-- A list of stores that came in. -/
structure Sin (w : World) (l : Option Addr) (n c : Nat) (xs : List Sto) : Prop where
  r : Reads w l (xs.flatMap stoC)
  hn : xs.length = n
  hc : n ≤ c
theorem Sin.ext {w w' : World} {l : Option Addr} {n c : Nat} {xs : List Sto} (h : Sin w l n c xs) (e : Ext w w' (fun _ => False)) : Sin w' l n c xs := ⟨h.r.ext e (fun _ _ _ h => h), h.hn, h.hc⟩

section
variable {H : Type} {enc : TypeId × Value → H}
theorem open_stos {W : World} {v : Value} {d : DataW H} {p : List MemPlace} {r : Reach} {b0 : Nat} (hv : Value.okWide Try.prog W r b0 89 v)
    (h : DataW.Trod enc Try.prog W 0 (fun _ => true) true 89 v d p) : ∃ (l : Option Addr) (n c : Nat) (xs : List Sto), v = .slice l n c ∧ Sin W l n c xs := by
  rcases open_sl (e := 138) (by kernel_rfl) hv h with rfl | ⟨a, len, cap, rfl, hlc, _, hi⟩
  · exact ⟨none, 0, 0, [], rfl, .inl rfl, rfl, Nat.le_refl _⟩
  · have hc3 : Try.prog.cellsOf 138 = 3 := by kernel_rfl
    rw [hc3] at hi
    obtain ⟨l, hl, hr, _, _⟩ := reads_rows (W := W) (a := a) (len := len) (m := 3) (f := stoC) (R := fun _ => True) (by omega) (fun _ => rfl) (fun i hi' => by
      obtain ⟨cs', n', y, hcl, hat, hy⟩ := hi i hi'
      obtain ⟨xs, m, _, _, _, hxl, hf⟩ := DataW.trod_struct (fs := structFs Try.prog 138) (by kernel_rfl) hy
      have hs3 : (structFs Try.prog 138).size = 3 := by kernel_rfl
      rw [hs3] at hxl
      match xs, hxl with
      | [x0, x1, x2], _ =>
        obtain ⟨n0, h0, _, _⟩ := DataW.trod_int (k := .i64) (by kernel_rfl) (hf 0 _ rfl)
        obtain ⟨n1, h1, _, _⟩ := DataW.trod_int (k := .i64) (by kernel_rfl) (hf 1 _ rfl)
        obtain ⟨n2, h2, _, w2⟩ := DataW.trod_int (k := .u8) (by kernel_rfl) (hf 2 _ rfl)
        obtain ⟨k2, rfl⟩ := u8_of (int_of_wf w2).1 (int_of_wf w2).2
        refine ⟨⟨n0, n1, k2⟩, trivial, fun j hj => ?_⟩
        rw [hat j hj]
        have e0 : (cs'.drop 0).take 1 = [.int .i64 n0] := h0
        have e1 : (cs'.drop 1).take 1 = [.int .i64 n1] := h1
        have e2 : (cs'.drop 2).take 1 = [.int .u8 (k2.toNat : Int)] := h2
        match cs', hcl with
        | [c0, c1, c2], _ =>
          simp at e0 e1 e2
          subst e0 e1 e2
          rfl)
    exact ⟨some a, len, cap, l, rfl, hr, hl, hlc⟩
end

section
variable {P : Program} {t : TypeId}
theorem sl_lo_any {a : Option Addr} {n c i : Nat} {k : IntKind} (e : TypeId) (m : Nat) (hi : i ≤ n) (hu : P.underlying t = some (.slice e) := by kernel_rfl) (hm : sizeT P e = m := by kernel_rfl) (hh : hasT P e = true := by kernel_rfl) :
    ∀ w, (Instr.sliceAt t (.slice a n c) (some (.int k (i : Int))) none none).run P w = .ok (.slice (if c = i then a else a.map (·.add (i * m))) (n - i) (c - i)) w := by
  intro w
  unfold Instr.sliceAt Instr.slice
  simp only [Sem.run_bind, Result.andThen, run_underlying_ok hu, Instr.sliceBounds, Sem.run_pure, Go.Ev.run_sliceBound (show (0 : Int) ≤ (i : Int) by omega) (show (i : Int) ≤ (n : Int) by omega), Int.toNat_natCast, Go.Ev.run_sizeOf hm hh]
theorem sl_hi_any {a : Option Addr} {n c i : Nat} {k : IntKind} (e : TypeId) (hi : i ≤ c) (hu : P.underlying t = some (.slice e) := by kernel_rfl) (hh : hasT P e = true := by kernel_rfl) :
    ∀ w, (Instr.sliceAt t (.slice a n c) none (some (.int k (i : Int))) none).run P w = .ok (.slice a i c) w := by
  intro w
  unfold Instr.sliceAt Instr.slice
  simp only [Sem.run_bind, Result.andThen, run_underlying_ok hu, Instr.sliceBounds, Sem.run_pure, Go.Ev.run_sliceBound (show (0 : Int) ≤ (i : Int) by omega) (show (i : Int) ≤ (c : Int) by omega), Int.toNat_natCast, Go.Ev.run_sizeOf rfl hh, Nat.zero_mul, Nat.sub_zero]
  have : a.map (fun x => x.add 0) = a := by
    cases a with
    | none => rfl
    | some a => show some (a.add 0) = _; unfold Addr.add; rw [if_pos rfl]
  rw [this, ite_self]
/-- One cell of a row of a slice that came in, in every world that meets S. -/
theorem rdFS {S : World → Prop} {α : Type} {p : Addr} {m o : Nat} {f : α → List Value} {l : List α} {v : Value} {K : Value → Prop} (i : Nat) (hi : i < l.length) (h : ∀ w, S w → Reads w (some p) (l.flatMap f)) (hf : ∀ x, (f x).length = m) (ho : o < m) (hv : (f l[i])[o]? = some v) (hK : K v)
    (ht : isScal P t = true := by kernel_rfl) : ldS P S t ((p.add (i * m)).add o) K := by
  refine ldS_c (v := v) (fun w hw => ?_) hK ht
  rcases h w hw with hh | ⟨p', hp', hh⟩
  · exfalso
    have := congrArg List.length hh
    rw [flat_length hf, List.length_nil] at this
    have : 0 < l.length * m := Nat.mul_pos (by omega) (by omega)
    omega
  · cases hp'
    have hb : i * m + o < l.length * m := by
      have := Nat.mul_le_mul_right m (show i + 1 ≤ l.length from hi)
      rw [Nat.add_mul] at this
      omega
    rw [add_add_, hh _ (by rw [flat_length hf]; exact hb), flat_get hf l i o hi ho]
    exact hv
theorem reads_drop {w : World} {α : Type} {a : Option Addr} {c m i : Nat} {f : α → List Value} {l : List α} (h : Reads w a (l.flatMap f)) (hf : ∀ x, (f x).length = m) (hm : 0 < m) (hi : i ≤ l.length) (hc : l.length ≤ c) : Reads w (if c = i then a else a.map (·.add (i * m))) ((l.drop i).flatMap f) := by
  by_cases hl : i = l.length
  · left
    rw [hl, List.drop_length]
    rfl
  rw [if_neg (by omega)]
  rcases h with h | ⟨p, rfl, h⟩
  · exfalso
    have := congrArg List.length h
    rw [flat_length hf, List.length_nil] at this
    have : 0 < l.length * m := Nat.mul_pos (by omega) hm
    omega
  · refine .inr ⟨p.add (i * m), rfl, fun j hj => ?_⟩
    rw [flat_length hf, List.length_drop] at hj
    have he : (l.drop i).flatMap f = (l.flatMap f).drop (i * m) := by
      have h1 : l.flatMap f = (l.take i).flatMap f ++ (l.drop i).flatMap f := by rw [← List.flatMap_append, List.take_append_drop]
      rw [h1, List.drop_left']
      rw [flat_length hf, List.length_take, Nat.min_eq_left hi]
    have hb : i * m + j < l.length * m := by
      have h2 : (l.length - i) * m + i * m = l.length * m := by rw [← Nat.add_mul]; congr 1; omega
      omega
    rw [he, List.getElem?_drop, add_add_, h _ (by rw [flat_length hf]; exact hb)]
theorem reads_take {w : World} {α : Type} {a : Option Addr} {i : Nat} {f : α → List Value} {l : List α} (h : Reads w a (l.flatMap f)) : Reads w a ((l.take i).flatMap f) := by
  rcases h with h | ⟨p, rfl, h⟩
  · left
    have h1 : l.flatMap f = (l.take i).flatMap f ++ (l.drop i).flatMap f := by rw [← List.flatMap_append, List.take_append_drop]
    rw [h] at h1
    exact (List.append_eq_nil_iff.1 h1.symm).1
  · refine .inr ⟨p, rfl, fun j hj => ?_⟩
    have h1 : l.flatMap f = (l.take i).flatMap f ++ (l.drop i).flatMap f := by rw [← List.flatMap_append, List.take_append_drop]
    rw [h j (by rw [h1, List.length_append]; omega), h1, List.getElem?_append_left hj]
end

/-- One store. -/
def sto1 (mem : List Sec) (s : Sto) : List Sec :=
  mem.set (modv s.page (mem.length : Int)).toNat ((mem.getD (modv s.page (mem.length : Int)).toNat []).take (modv s.pos 256).toNat ++ [s.val] ++ (mem.getD (modv s.page (mem.length : Int)).toNat []).drop ((modv s.pos 256).toNat + 1))
def runM (mem : List Sec) (l : List Sto) : List Sec := l.foldl sto1 mem
theorem sto1_length (mem : List Sec) (s : Sto) : (sto1 mem s).length = mem.length := by simp [sto1]
theorem runM_length : ∀ (l : List Sto) (mem : List Sec), (runM mem l).length = mem.length
  | [], _ => rfl
  | s :: l, mem => by show (runM (sto1 mem s) l).length = _; rw [runM_length l, sto1_length]
theorem runM_append (mem : List Sec) (a b : List Sto) : runM mem (a ++ b) = runM (runM mem a) b := by simp [runM]
theorem sto1_256 {mem : List Sec} {s : Sto} (h0 : 0 < mem.length) (h : ∀ m ∈ mem, m.length = 256) : ∀ m ∈ sto1 mem s, m.length = 256 := by
  intro m hm
  have hb := modv_bd (v := s.page) (n := (mem.length : Int)) (by omega)
  have hk := modv_bd (v := s.pos) (n := 256) (by omega)
  have hlt : (modv s.page (mem.length : Int)).toNat < mem.length := by omega
  unfold sto1 at hm
  rcases List.mem_or_eq_of_mem_set hm with hm | hm
  · exact h m hm
  · rw [hm, List.getD_eq_getElem?_getD, List.getElem?_eq_getElem hlt]
    simp only [Option.getD_some, List.length_append, List.length_take, List.length_drop, List.length_singleton, h _ (List.getElem_mem hlt)]
    omega
theorem runM_256 : ∀ {l : List Sto} {mem : List Sec}, 0 < mem.length → (∀ m ∈ mem, m.length = 256) → ∀ m ∈ runM mem l, m.length = 256
  | [], mem, _, h => h
  | s :: l, mem, h0, h => runM_256 (l := l) (by rw [sto1_length]; exact h0) (sto1_256 h0 h)

section
variable {U w w' : World} {Q : Value → World → Prop} {p : Nat} {s : St} {K K' X : Nat → Prop}

theorem run_c {la : Option Addr} {ln lc mb n mc : Nat} {xs : List Sto} {mem : List Sec} (hs : Reads w la (xs.flatMap stoC)) (hsn : xs.length = ln) (hl : ln ≤ 1000000) (hm : Sl w 9 1 (some ⟨mb, 0, none⟩) n mc (strs mem)) (hmn : mem.length = n) (hn0 : 0 < n) (hn : n ≤ 1000000) (h256 : ∀ m ∈ mem, m.length = 256) (hne : ∀ q : Addr, la = some q → xs ≠ [] → q.block ≠ mb)
    (hQ : ∀ w', Sl w' 9 1 (some ⟨mb, 0, none⟩) n mc (strs (runM mem xs)) → Ext w w' (· = mb) → Q (.tuple #[]) w') :
    CallE Try.prog 45 #[.slice (some ⟨mb, 0, none⟩) n mc, .slice la ln lc] w Q := by
  apply C.law35_run
  unfold W.law35_run
  subst hsn
  refine LoopW.nat xs.length (fun i x w' => x = ((i : Int), ()) ∧ Sl w' 9 1 (some ⟨mb, 0, none⟩) n mc (strs (runM mem (xs.take i))) ∧ Ext w w' (· = mb)) ⟨rfl, hm, Ext.refl _ _⟩ ?_
  rintro i x w1 next hi ⟨rfl, m1, e1⟩ hnext
  dsimp only
  by_cases hlt : i < xs.length
  case neg =>
    rw [decide_eq_false (by omega), br_false]
    rw [List.take_of_length_le (by omega)] at m1
    exact hQ w1 m1 e1
  rw [decide_eq_true (by omega), br_true]
  obtain ⟨q, rfl⟩ := hs.some_ (by rw [flat_length stoC_len]; omega)
  have hqb : q.block ≠ mb := hne q rfl (fun h => by rw [h] at hlt; simp at hlt)
  have hs1 : Reads w1 (some q) (xs.flatMap stoC) := hs.ext e1 (fun p hp _ => by cases hp; exact hqb)
  have hml := runM_length (xs.take i) mem
  have hm256 := runM_256 (l := xs.take i) (by omega) h256
  have hstep : runM mem (xs.take (i + 1)) = sto1 (runM mem (xs.take i)) xs[i] := by rw [← List.take_append_getElem hlt, runM_append]; rfl
  generalize hM : runM mem (xs.take i) = M at *
  have hMn : M.length = n := by omega
  unfold sto1 at hstep
  rw [hMn] at hstep
  refine ⟨fun w' => Reads w' (some q) (xs.flatMap stoC), hs1.ext (w' := drew w1) (Ext.refl w1 (fun _ => False)).drew_ (fun _ _ _ h => h), ?_⟩
  refine ixsS i 3 138 hlt ?_
  refine rdFS (o := 0) i hlt (fun _ h => h) stoC_len (by omega) rfl (fi ?_)
  refine ixsS i 3 138 hlt ?_
  refine rdFS (o := 1) i hlt (fun _ h => h) stoC_len (by omega) rfl (fi ?_)
  have hsd : Reads (drew w1) (some q) (xs.flatMap stoC) := hs1.ext (w' := drew w1) (Ext.refl w1 (fun _ => False)).drew_ (fun _ _ _ h => h)
  refine mod_c (by omega) (by omega) (fi ⟨hsd, ?_⟩)
  refine mod_c (by omega) (by omega) (fi ⟨hsd, ?_⟩)
  have hb := modv_bd (v := xs[i].page) (n := (n : Int)) (by omega)
  have hkb := modv_bd (v := xs[i].pos) (n := 256) (by omega)
  obtain ⟨pn, hpn⟩ := nat_of hb.1
  obtain ⟨kn, hkn⟩ := nat_of hkb.1
  rw [hpn, hkn, Int.toNat_natCast, Int.toNat_natCast] at hstep
  rw [hpn] at hb
  rw [hkn] at hkb
  rw [hpn, hkn, inc_nat (by omega), inc_nat (n := i) (by omega)]
  have hpl : pn < M.length := by omega
  have hgd : M.getD pn [] = M[pn] := by rw [List.getD_eq_getElem?_getD, List.getElem?_eq_getElem hpl]; rfl
  rw [hgd] at hstep
  have hPl : M[pn].length = 256 := hm256 _ (List.getElem_mem hpl)
  have hget : (strs M)[pn * 1]? = some (.string (mkS M[pn])) := by rw [Nat.mul_one]; exact strs_get hpl
  refine ⟨fun _ => True, trivial, ?_⟩
  refine ixbS pn 1 9 (by omega) ?_
  refine ixsS i 3 138 hlt ?_
  refine ixbS pn 1 9 (by omega) ?_
  have ed : Ext w1 (drew (drew w1)) (fun _ => False) := (Ext.refl w1 _).drew_.drew_
  generalize drew (drew w1) = w0 at *
  have E0 : Ext w0 w0 (fun _ => False) := Ext.refl _ _
  have m0 := m1.ext ed (fun _ _ h => h)
  have s0 := hs1.ext ed (fun _ _ _ h => h)
  generalize hD : M[pn] = D at *
  have ldm : ∀ {w' : World} {K : ByteArray → Prop}, Ext w0 w' (fun _ => False) → K (mkS D) → ld Try.prog 9 ⟨mb, pn * 1, none⟩ w' fun v => fT v fun t => True ∧ K t :=
    fun e hK => slL (m0.ext e (fun _ _ h => h)) hget (ft ⟨trivial, hK⟩)
  have ldv : ∀ {w' : World} {K : Int → Prop}, Ext w0 w' (fun _ => False) → K (xs[i].val.toNat : Int) → ld Try.prog 5 ((q.add (i * 3)).add 2) w' fun v => fI .u8 v fun x => True ∧ K x :=
    fun e hK => rdF (o := 2) i hlt (s0.ext e (fun _ _ _ h => h)) stoC_len (by omega) rfl (fi ⟨trivial, hK⟩)
  have slh : ∀ {K : ByteArray → Prop}, K (mkS (D.take kn)) → rqS Try.prog (fun _ => True) (Instr.sliceAt 9 (.string (mkS D)) none (some (.int .i64 (kn : Int))) none) fun v => fT v K :=
    fun hK => qST (s_hi (by omega) (by omega)) (by rw [Int.toNat_natCast]; exact hK)
  have sll : ∀ {K : ByteArray → Prop}, K (mkS (D.drop (kn + 1))) → rqS Try.prog (fun _ => True) (Instr.sliceAt 9 (.string (mkS D)) (some (.int .i64 ((kn + 1 : Nat) : Int))) none none) fun v => fT v K :=
    fun hK => qST (s_lo (by omega) (by omega)) (by rw [Int.toNat_natCast]; exact hK)
  have alb : ∀ {w' : World} {K : Addr → World → Prop}, Ext w0 w' (fun _ => False) → (∀ tb w'', At w'' tb (by_ [xs[i].val]) 5 → Ext w0 w'' (fun _ => False) → K ⟨tb, 0, none⟩ w'') → al 5 #[.int .u8 (xs[i].val.toNat : Int)] w' fun a w'' => True ∧ K a w'' :=
    fun e hK => al_i fun tb w'' htb a'' e'' z'' => ⟨trivial, hK tb w'' a'' (e.tr e'')⟩
  have cnv : ∀ {w' : World} {tb : Nat} {K : ByteArray → World → Prop}, At w' tb (by_ [xs[i].val]) 5 → K (mkS [xs[i].val]) w' → rv Try.prog (convert 82 9 (.slice (some ⟨tb, 0, none⟩) 1 1)) w' fun v w'' => fT v fun t => True ∧ K t w'' :=
    fun ha hK => bsT (K := fun t w'' => True ∧ _) ha rfl ⟨trivial, hK⟩
  have ad1 : ∀ {x y : Operand} {K : ByteArray → Prop}, K (mkS (D.take kn ++ [xs[i].val])) → rqS Try.prog (fun _ => True) (do eqGuard .add 9 x y (.string (mkS (D.take kn))) (.string (mkS [xs[i].val])); binOp .add 9 (.string (mkS (D.take kn))) (.string (mkS [xs[i].val]))) fun v => fT v K :=
    fun hK => qST (s_add (by rw [List.length_take]; show min kn D.length + 1 < _; omega)) hK
  have ad2 : ∀ {x y : Operand} {K : ByteArray → Prop}, K (mkS (D.take kn ++ [xs[i].val] ++ D.drop (kn + 1))) → rqS Try.prog (fun _ => True) (do eqGuard .add 9 x y (.string (mkS (D.take kn ++ [xs[i].val]))) (.string (mkS (D.drop (kn + 1)))); binOp .add 9 (.string (mkS (D.take kn ++ [xs[i].val]))) (.string (mkS (D.drop (kn + 1))))) fun v => fT v K :=
    fun hK => qST (s_add (by rw [List.length_append, List.length_take, List.length_drop]; show min kn D.length + 1 + (D.length - (kn + 1)) < _; omega)) hK
  have ixm : ∀ {K : Addr → Prop}, K ⟨mb, pn * 1, none⟩ → rqS Try.prog (fun _ => True) (Instr.indexAt 49 (.slice (some ⟨mb, 0, none⟩) n mc) (.int .i64 (pn : Int))) fun v => fA v K :=
    fun hK => ixbS pn 1 9 (by omega) hK
  have fin : ∀ {w' : World}, Ext w0 w' (fun _ => False) → st Try.prog 9 ⟨mb, pn * 1, none⟩ (.string (mkS (D.take kn ++ [xs[i].val] ++ D.drop (kn + 1)))) w' fun w'' => True ∧ next (((i + 1 : Nat) : Int), ()) w'' := by
    intro w' e
    refine slS (m0.ext e (fun _ _ h => h)) (by rw [strs_length]; omega) fun w2 s2 e2 z2 => ⟨trivial, ?_⟩
    rw [Nat.mul_one, strs_set] at s2
    exact hnext hlt _ _ ⟨rfl, by rw [hstep]; exact s2, (e1.tr0 (ed.tr e)).tr e2⟩
  repeat' with_reducible first
    | refine ldm (by assumption) ?_
    | refine ldv (by assumption) ?_
    | refine slh ?_
    | refine sll ?_
    | refine ad1 ?_
    | refine ad2 ?_
    | refine ixm ?_
    | refine alb (by assumption) fun _ _ _ _ => ?_
    | refine cnv (by assumption) ?_
    | refine And.intro ?_ ?_
    | exact fin (by assumption)
end
end Go.Proofs.Ytpinpccamfhofaa.Hi
