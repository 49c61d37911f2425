/-
  Saving and loading on a disk that is on, without a plan, in plain terms. No program; no condition beyond those stated.
-/
import Derived.Test.YtpinpccamfhofaaHiE
set_option linter.unusedVariables false
set_option linter.unusedSimpArgs false
set_option maxRecDepth 100000
namespace Go.Proofs.Ytpinpccamfhofaa.Hi
open Go Go.Ev Go.Proofs Go.Proofs.Ytpinpccamfhofaa.Im
open Go.Proofs.Ytpinpccamfhofaa.Bd (St Sec Dk Ok wr fl rd cut pOff pOn zs all new lose)

/-- A disk that is on, without a plan and with nothing cached. -/
def onD (S : List Sec) : St := ⟨S, [], false, none⟩
theorem zs_len : zs.length = 64 := rfl
theorem wr_on {S : List Sec} {C : List (Nat × Sec)} {i : Nat} {d : Sec} (hi : i < S.length) (hd : d.length = 64) : wr ⟨S, C, false, none⟩ (i : Int) d = (⟨S, C ++ [(i, d)], false, none⟩, 0) := by
  unfold wr
  rw [if_neg (by simp only [hd]; omega)]
  simp
theorem fl_on {S : List Sec} {C : List (Nat × Sec)} {pl : Option (Nat × List Bool)} : fl ⟨S, C, false, pl⟩ = (⟨all C S, [], false, pl⟩, 0) := by
  unfold fl
  simp
theorem dis_on {S : List Sec} (h : 0 < S.length) : dis (onD S) = (onD (S.set 0 zs), 0) := by
  unfold dis onD
  have hw := wr_on (S := S) (C := []) (i := 0) (d := zs) h zs_len
  rw [show ((0 : Nat) : Int) = 0 from rfl] at hw
  rw [hw]
  dsimp only
  rw [if_neg (by simp), fl_on]
  rfl
def wl : Nat → List Sec → List (Nat × Sec)
  | _, [] => []
  | n, d :: r => (n, d) :: wl (n + 1) r
theorem wrs_on {S : List Sec} : ∀ (r : List Sec) (C : List (Nat × Sec)) (n : Nat), n + r.length ≤ S.length → (∀ d ∈ r, d.length = 64) → wrs ⟨S, C, false, none⟩ n r = (⟨S, C ++ wl n r, false, none⟩, 0)
  | [], C, n, _, _ => by simp [wrs, wl]
  | d :: r, C, n, h, hd => by
    rw [List.length_cons] at h
    have hw := wr_on (S := S) (C := C) (i := n) (d := d) (by omega) (hd d (.head _))
    rw [wrs, hw]
    dsimp only
    rw [if_neg (by simp), wrs_on r _ (n + 1) (by omega) (fun x hx => hd x (.tail _ hx))]
    simp [wl]
theorem all_wl : ∀ (r : List Sec) (S : List Sec) (n : Nat), n + r.length ≤ S.length → all (wl n r) S = S.take n ++ r ++ S.drop (n + r.length)
  | [], S, n, h => by simp [wl, all]
  | d :: r, S, n, h => by
    rw [List.length_cons] at h
    show all (wl (n + 1) r) (S.set n d) = _
    rw [all_wl r (S.set n d) (n + 1) (by rw [List.length_set]; omega), List.take_succ_eq_append_getElem (by rw [List.length_set]; omega), List.getElem_set_self, List.take_set_of_le (by omega), List.drop_set_of_lt (by omega), List.length_cons]
    rw [show n + 1 + r.length = n + (r.length + 1) by omega]
    simp
theorem sav_full {s : St} {h : Sec} {r : List Sec} (hl : s.S.length < r.length + 1) : sav s h r = (s, 8) := by
  unfold sav
  rw [if_pos hl]
/-- What a saving leaves. -/
theorem sav_on {S : List Sec} {h : Sec} {r : List Sec} (hl : r.length + 1 ≤ S.length) (h64 : h.length = 64) (hr : ∀ d ∈ r, d.length = 64) : sav (onD S) h r = (onD (h :: r ++ S.drop (r.length + 1)), 0) := by
  unfold sav
  rw [if_neg (by show ¬ (S.length < _); omega), dis_on (by omega)]
  dsimp only
  rw [if_neg (by simp)]
  unfold sav1 onD
  rw [wrs_on r [] 1 (by rw [List.length_set]; omega) hr]
  dsimp only
  rw [if_neg (by simp)]
  unfold sav2
  rw [List.nil_append, fl_on]
  dsimp only
  rw [if_neg (by simp)]
  have hlen : (all (wl 1 r) (S.set 0 zs)).length = S.length := by rw [Bd.all_length, List.length_set]
  have hw := wr_on (S := all (wl 1 r) (S.set 0 zs)) (C := []) (i := 0) (d := h) (by omega) h64
  rw [show ((0 : Nat) : Int) = 0 from rfl] at hw
  rw [hw]
  dsimp only
  rw [if_neg (by simp), fl_on]
  have : all ([] ++ [(0, h)]) (all (wl 1 r) (S.set 0 zs)) = h :: r ++ S.drop (r.length + 1) := by
    show (all (wl 1 r) (S.set 0 zs)).set 0 h = _
    rw [all_wl r (S.set 0 zs) 1 (by rw [List.length_set]; omega), List.drop_set_of_lt (by omega), Nat.add_comm 1]
    match S, hl with
    | x :: S, _ => rfl
  rw [this]
theorem rd_on0 {S : List Sec} (h : 0 < S.length) : rd (onD S) 0 = (S.getD 0 [], 0) := by
  have := rd_on (s := onD S) (i := 0) rfl h
  exact this
theorem decH_zs : (decH zs).2 ≠ 0 := by decide +kernel
/-- An erased disk has no image. -/
theorem loa_none {S : List Sec} {bd : List UInt8} (h : 0 < S.length) (hz : S.getD 0 [] = zs) : loa (onD S) bd = (onD S, .inl 6) := by
  unfold loa
  rw [rd_on0 h, hz, if_neg (by simp), if_pos decH_zs]
/-- A saved image is loaded. -/
theorem loa_some {S : List Sec} {b bd : List UInt8} {g : Nat} {ps : List Pg} {more : List Sec} (hS : S = secs g b ps ++ more) (hb : b.length = 32) (hg : g < 18446744073709551616) (hP : OkP ps) (hm : ∀ d ∈ more, d.length = 64) :
    loa (onD S) bd = if b ≠ bd then (onD S, .inl 21) else (onD (S.set 0 zs), .inr (b, g, ps)) := by
  have hbl := body_lt hP
  have hcr := (crc (bodyOf ps)).isLt
  have hpos : 0 < S.length := by rw [hS]; unfold secs; simp
  have h0 : S.getD 0 [] = hdr g b (bodyOf ps).length (crc (bodyOf ps)).toNat := by rw [hS]; rfl
  unfold loa
  rw [rd_on0 hpos, h0, if_neg (by simp), decH_hdr hb hg (by omega) hcr, if_neg (by simp)]
  have hd : decI (all (onD S).C (onD S).S) = .inr (b, g, ps) := by
    show decI S = _
    rw [hS]
    exact decI_secs hb hg hP hm
  rw [hd]
  dsimp only
  split
  · rfl
  · rw [dis_on hpos]
    simp
theorem onD_ok {S : List Sec} : Ok S.length 0 (onD S) := ⟨rfl, by simp [onD], by simp [onD], by simp [onD]⟩
theorem new_on (n : Nat) : new n = onD (List.replicate n zs) := rfl
theorem rep_len {n : Nat} : ∀ d ∈ List.replicate n zs, d.length = 64 := fun d hd => by rw [(List.mem_replicate.1 hd).2]; rfl
theorem secs_cons (g : Nat) (bd : List UInt8) (ps : List Pg) : secs g bd ps = hdr g bd (bodyOf ps).length (crc (bodyOf ps)).toNat :: cuts (bodyOf ps) := rfl
/-- A saving of a valid image that fits. -/
theorem sav_secs {S : List Sec} {g : Nat} {bd : List UInt8} {ps : List Pg} (hb : bd.length = 32) (hl : (secs g bd ps).length ≤ S.length) : sav (onD S) (hdr g bd (bodyOf ps).length (crc (bodyOf ps)).toNat) (cuts (bodyOf ps)) = (onD (secs g bd ps ++ S.drop (secs g bd ps).length), 0) := by
  rw [secs_cons, List.length_cons] at hl
  rw [sav_on hl (hdr_length hb) (cuts_len _), secs_cons, List.length_cons]
end Go.Proofs.Ytpinpccamfhofaa.Hi
