/- The document's Shift, walked: it is the same function. -/
import Derived.Test.YtlmghmndojfjpaaShift
namespace Go.Proofs.Ytlmghmndojfjpaa.Shf
open Go.RowKit Go.Proofs.Ytlmghmndojfjpaa.Frm
set_option linter.unusedVariables false
set_option linter.unusedSimpArgs false

set_option maxHeartbeats 400000 in
theorem odd_calls (n : Int) (w : World) : Calls Try.prog 21 #[.int .i64 n] w fun e w' => e = .returned (.bool (wrongB n)) ∧ w = w' := by
  by_cases h : n < 0
  · have e : wrongB n = true := by simp [wrongB, h]
    rw [e]
    go_enter Try.func21, Try.ntmps21
    go_wp2
    go_ret
    exact ⟨rfl, rfl⟩
  · have e : wrongB n = decide (1073741824 < n) := by simp [wrongB, h]
    rw [e]
    go_enter Try.func21, Try.ntmps21
    go_wp2
    go_ret
    exact ⟨rfl, rfl⟩

set_option maxHeartbeats 1000000 in
theorem ref_shift_calls (line at_ old now : Int) (w : World) (h0 : -1099511627776 ≤ line) (h1 : line ≤ 1099511627776) :
    Calls Try.prog 10 #[.int .i64 line, .int .i64 at_, .int .i64 old, .int .i64 now] w fun e w' => e = .returned (.tuple #[.int .i64 (shift line at_ old now).1, .bool (shift line at_ old now).2]) ∧ w = w' := by
  cases ha : wrongB at_ with
  | true =>
    have e : shift line at_ old now = (line, true) := by unfold shift; rw [ha]; rfl
    rw [e]
    clear e
    go_enter Try.func10, Try.ntmps10
    go_wp2_with (go_at_call 21; refine (odd_calls _ _).mono ?_; rintro e w' ⟨rfl, rfl⟩)
    go_ret2
    exact ⟨rfl, rfl⟩
  | false =>
  cases ho : wrongB old with
  | true =>
    have e : shift line at_ old now = (line, true) := by unfold shift; rw [ha, ho]; rfl
    rw [e]
    clear e
    go_enter Try.func10, Try.ntmps10
    go_wp2_with (go_at_call 21; refine (odd_calls _ _).mono ?_; rintro e w' ⟨rfl, rfl⟩)
    go_ret2
    exact ⟨rfl, rfl⟩
  | false =>
  cases hn : wrongB now with
  | true =>
    have e : shift line at_ old now = (line, true) := by unfold shift; rw [ha, ho, hn]; rfl
    rw [e]
    clear e
    go_enter Try.func10, Try.ntmps10
    go_wp2_with (go_at_call 21; refine (odd_calls _ _).mono ?_; rintro e w' ⟨rfl, rfl⟩)
    go_ret2
    exact ⟨rfl, rfl⟩
  | false =>
  obtain ⟨a0, a1⟩ := wrongB_false ha
  obtain ⟨o0, o1⟩ := wrongB_false ho
  obtain ⟨n0, n1⟩ := wrongB_false hn
  by_cases hl : line < at_
  · have e : shift line at_ old now = (line, true) := by unfold shift; rw [ha, ho, hn]; simp [hl]
    rw [e]
    clear e
    go_enter Try.func10, Try.ntmps10
    go_wp2_with (go_at_call 21; refine (odd_calls _ _).mono ?_; rintro e w' ⟨rfl, rfl⟩)
    go_ret2
    exact ⟨rfl, rfl⟩
  · have hl2 : at_ ≤ line := by omega
    by_cases h3' : ¬ (line - at_ < old)
    · have h3 : old ≤ line - at_ := by omega
      have e : shift line at_ old now = (line - old + now, true) := by unfold shift; rw [ha, ho, hn]; simp [hl, h3]; omega
      rw [e]
      clear e
      go_enter Try.func10, Try.ntmps10
      go_wp2_with (go_at_call 21; refine (odd_calls _ _).mono ?_; rintro e w' ⟨rfl, rfl⟩)
      go_ret2
      exact ⟨rfl, rfl⟩
    · have h3 : ¬ (old ≤ line - at_) := by omega
      by_cases h4 : line - at_ < now
      · have e : shift line at_ old now = (line, true) := by unfold shift; rw [ha, ho, hn]; simp [hl, h3, h4]
        rw [e]
        clear e
        go_enter Try.func10, Try.ntmps10
        go_wp2_with (go_at_call 21; refine (odd_calls _ _).mono ?_; rintro e w' ⟨rfl, rfl⟩)
        go_ret2
        exact ⟨rfl, rfl⟩
      · have e : shift line at_ old now = (0, false) := by unfold shift; rw [ha, ho, hn]; simp [hl, h3, h4]
        rw [e]
        clear e
        go_enter Try.func10, Try.ntmps10
        go_wp2_with (go_at_call 21; refine (odd_calls _ _).mono ?_; rintro e w' ⟨rfl, rfl⟩)
        go_ret2
        exact ⟨rfl, rfl⟩
end Go.Proofs.Ytlmghmndojfjpaa.Shf
