/-
  The statements' remainder. No condition beyond those stated.
-/
import Derived.Test.YtpgekajgbkbpkaaStr
import Derived.Test.YtpgekajgbkbpkaaW1
namespace Go.Proofs.Ytpgekajgbkbpkaa
open Go Go.Ev Go.Proofs

def modv (v n : Int) : Int := (v % 18446744073709551616) % n
theorem modv_bd {v n : Int} (h : 0 < n) : 0 ≤ modv v n ∧ modv v n < n := ⟨Int.emod_nonneg _ (by omega), Int.emod_lt_of_pos _ h⟩

section
variable {w : World} {Q : Value → World → Prop}

theorem mod_c {v n : Int} (h0 : 0 < n) (h1 : n ≤ 9223372036854775807) (hQ : Q (.int .i64 (modv v n)) w) : CallE Try.prog 18 #[.int .i64 v, .int .i64 n] w Q := by
  apply C.help_Mod
  unfold W.help_Mod
  rw [wrap_u64 (x := n) (by omega) (by omega), wrap_u64']
  refine rem_i (by omega) ?_
  rw [fI_int]
  have hb := modv_bd (v := v) h0
  have : (v % 18446744073709551616).tmod n = modv v n := Int.tmod_eq_emod_of_nonneg (by omega)
  rw [this, wrap_i64 (by omega) (by omega)]
  exact hQ
end
end Go.Proofs.Ytpgekajgbkbpkaa
