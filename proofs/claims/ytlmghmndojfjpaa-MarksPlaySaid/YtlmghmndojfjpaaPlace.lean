/- The statements' Place, walked. -/
import Derived.Test.YtlmghmndojfjpaaProg
import Derived.Test.YtlmghmndojfjpaaFrame
import Derived.WalkSpells
namespace Go.Proofs.Ytlmghmndojfjpaa.Arg
open Go.RowKit Go.Proofs.Ytlmghmndojfjpaa.Frm
set_option linter.unusedVariables false

/-- A number from 0 to n - 1 out of any number. -/
def place (k n : Int) : Int := if k.tmod n < 0 then k.tmod n + n else k.tmod n

theorem tmod_bd (a : Int) {n : Int} (hn : 0 < n) : -n < a.tmod n ∧ a.tmod n < n := by
  rcases Int.le_total 0 a with h | h
  · rw [Int.tmod_eq_emod_of_nonneg h]
    have h1 := Int.emod_nonneg a (show n ≠ 0 by omega)
    have h2 := Int.emod_lt_of_pos a hn
    omega
  · have e : a.tmod n = -((-a) % n) := by
      rw [← Int.tmod_eq_emod_of_nonneg (by omega : 0 ≤ -a), Int.neg_tmod]; omega
    rw [e]
    have h1 := Int.emod_nonneg (-a) (show n ≠ 0 by omega)
    have h2 := Int.emod_lt_of_pos (-a) hn
    omega
theorem place_bd (k : Int) {n : Int} (hn : 0 < n) : 0 ≤ place k n ∧ place k n < n := by
  have := tmod_bd k hn
  unfold place
  split <;> omega

set_option maxHeartbeats 1000000 in
theorem place_calls (k n : Int) (w : World) (hn : 0 < n) (hn2 : n ≤ 1000000) (hk0 : -9223372036854775808 ≤ k) (hk1 : k ≤ 9223372036854775807) :
    Calls Try.prog 19 #[.int .i64 k, .int .i64 n] w fun e w' => e = .returned (.int .i64 (place k n)) ∧ w = w' := by
  obtain ⟨h1, h2⟩ := tmod_bd k hn
  have hz : ((n : Int) == 0) = false := by rw [beq_eq_false_iff_ne]; omega
  by_cases h : k.tmod n < 0
  · have e : place k n = k.tmod n + n := if_pos h
    rw [e]
    clear e
    go_enter Try.func19, Try.ntmps19
    go_wp2
    go_ret
    exact ⟨rfl, rfl⟩
  · have e : place k n = k.tmod n := if_neg h
    rw [e]
    clear e
    go_enter Try.func19, Try.ntmps19
    go_wp2
    go_ret
    exact ⟨rfl, rfl⟩
end Go.Proofs.Ytlmghmndojfjpaa.Arg
