/-
  The header of an image: what EncodeHeader returns. No condition beyond those stated.
-/
import Derived.Test.YtpgekajgbkbpkaaImN
import Derived.Test.YtpgekajgbkbpkaaAps
namespace Go.Proofs.Ytpgekajgbkbpkaa.Im
open Go Go.Ev Go.Proofs

/-- A header as a value, and as bytes. -/
def hdrC (g : Nat) (bd : List UInt8) (n s : Nat) : List Value := .int .u64 (g : Int) :: (by_ bd ++ [.int .u32 (n : Int), .int .u32 (s : Int)])
def hdr0 (g : Nat) (bd : List UInt8) (n s : Nat) : List UInt8 := [72, 73, 66, 49] ++ le g 8 ++ bd ++ le n 4 ++ le s 4
def hdr (g : Nat) (bd : List UInt8) (n s : Nat) : List UInt8 := hdr0 g bd n s ++ le (crc (hdr0 g bd n s)).toNat 4 ++ le 0 8

/-- A buffer of the code's own, younger than a world. -/
structure Bf (w0 w : World) (a : Option Addr) (n c : Nat) (l : List UInt8) : Prop where
  s : Sl w 5 1 a n c (by_ l)
  f : ∀ b, a = some ⟨b, 0, none⟩ → w0.heap.size ≤ b
  e : Ext w0 w (fun _ => False)
theorem Bf.step {w0 w w' : World} {a a' : Option Addr} {n c n' c' : Nat} {l l' : List UInt8} (h : Bf w0 w a n c l) (s' : Sl w' 5 1 a' n' c' (by_ l ++ by_ l')) (f' : ∀ b, a' = some ⟨b, 0, none⟩ → a = some ⟨b, 0, none⟩ ∨ w.heap.size ≤ b) (e' : Ext w w' (fun b => a = some ⟨b, 0, none⟩)) : Bf w0 w' a' n' c' (l ++ l') := by
  have hs := h.e.size
  refine ⟨by rw [by_append]; exact s', fun b hb => ?_, h.e.trans e' (fun _ _ h => h) (fun b hb hx => ?_)⟩
  · rcases f' b hb with hx | hx
    · exact h.f b hx
    · omega
  · have := h.f b hx
    omega
theorem Bf.same {w0 w w' : World} {a : Option Addr} {n c : Nat} {l : List UInt8} (h : Bf w0 w a n c l) (e : Ext w w' (fun _ => False)) : Bf w0 w' a n c l := ⟨h.s.ext e (fun _ _ h => h), h.f, h.e.tr e⟩

section
variable {U w : World} {Q : Value → World → Prop}

theorem encodeHeader_c {g n s : Nat} {bd : List UInt8} (hbd : bd.length = 32) (hn : n < 4294967296) (hs : s < 4294967296) (hQ : ∀ w', Ext w w' (fun _ => False) → Q (.string (mkS (hdr g bd n s))) w') :
    CallE Try.prog 15 #[.agg (hdrC g bd n s).toArray] w Q := by
  apply C.image_EncodeHeader
  unfold W.image_EncodeHeader
  refine al_i fun hb w1 hhb a1 e1 z1 => ?_
  change At w1 hb (hdrC g bd n s) 32 at a1
  simp only [add_mk, Nat.zero_add]
  refine mk_0 5 1 (by omega) (by omega) fun bb w2 hbb s2 e2 z2 => fs ?_
  have b2 : Bf w1 w2 (some ⟨bb, 0, none⟩) 0 64 [] := ⟨s2, fun b hb => by simp only [Option.some.injEq, Addr.mk.injEq, and_true] at hb; omega, e2⟩
  refine ap_s (l := [72, 73, 66, 49]) 5 b2.s (by show 0 + 4 ≤ _; omega) fun a3 c3 w3 s3 f3 g3 e3 => fs ?_
  have b3 := b2.step s3 f3 e3
  refine ldI (a1.ext b3.e (fun h => h)) rfl ?_
  refine appendNumber_c (v := g) (k := 8) b3.s (by omega) (by show 0 + 4 ≤ _; omega) fun a4 c4 w4 s4 f4 g4 e4 => fs ?_
  have b4 := b3.step s4 f4 e4
  refine rq_r (a_all 32) (fs ?_)
  have a14 := a1.ext b4.e (fun h => h)
  refine ap_i 5 1 (vs := by_ bd) b4.s (.inr ⟨_, rfl, fun j hj => ?_⟩) (by rw [by_length, hbd]) (by_one _) (by show 0 + 4 + 8 + 32 ≤ _; omega) fun a5 c5 w5 s5 f5 g5 e5 => fs ?_
  · rw [add_mk, a14.cell, Nat.add_comm]
    unfold hdrC
    rw [List.getElem?_cons_succ, List.getElem?_append_left hj]
  have b5 := b4.step s5 f5 e5
  have hc33 : (hdrC g bd n s)[33]? = some (.int .u32 (n : Int)) := by
    unfold hdrC
    rw [List.getElem?_cons_succ, List.getElem?_append_right (by rw [by_length, hbd]; omega), by_length, hbd]
    rfl
  have hc34 : (hdrC g bd n s)[34]? = some (.int .u32 (s : Int)) := by
    unfold hdrC
    rw [List.getElem?_cons_succ, List.getElem?_append_right (by rw [by_length, hbd]; omega), by_length, hbd]
    rfl
  refine ldI (a1.ext b5.e (fun h => h)) hc33 ?_
  rw [wrap_64 (by omega)]
  refine appendNumber_c (v := n) (k := 4) b5.s (by omega) (by show 0 + 4 + 8 + 32 ≤ _; omega) fun a6 c6 w6 s6 f6 g6 e6 => fs ?_
  have b6 := b5.step s6 f6 e6
  refine ldI (a1.ext b6.e (fun h => h)) hc34 ?_
  rw [wrap_64 (by omega)]
  refine appendNumber_c (v := s) (k := 4) b6.s (by omega) (by show 0 + 4 + 8 + 32 + 4 ≤ _; omega) fun a7 c7 w7 s7 f7 g7 e7 => fs ?_
  have b7 := b6.step s7 f7 e7
  rw [List.nil_append] at b7
  change Bf w1 w7 a7 _ c7 (hdr0 g bd n s) at b7
  have h0l : (hdr0 g bd n s).length = 0 + 4 + 8 + 32 + 4 + 4 := by simp [hdr0, le_length, hbd]
  refine slT b7.s h0l ?_
  refine checksum_c (by rw [h0l]; omega) fun w8 e8 => fi ?_
  have b8 := b7.same e8
  have hcr := (crc (hdr0 g bd n s)).isLt
  rw [wrap_64 (by omega)]
  refine appendNumber_c (k := 4) b8.s (by omega) (by show 0 + 4 + 8 + 32 + 4 + 4 ≤ _; omega) fun a9 c9 w9 s9 f9 g9 e9 => fs ?_
  have b9 := b8.step s9 f9 e9
  refine appendNumber_c (v := 0) (k := 8) b9.s (by omega) (by show 0 + 4 + 8 + 32 + 4 + 4 + 4 ≤ _; omega) fun a10 c10 w10 s10 f10 g10 e10 => fs ?_
  have b10 := b9.step s10 f10 e10
  refine slT b10.s (by rw [List.length_append, List.length_append, h0l, le_length, le_length]; rfl) ?_
  exact hQ w10 (e1.tr b10.e)
end
end Go.Proofs.Ytpgekajgbkbpkaa.Im
