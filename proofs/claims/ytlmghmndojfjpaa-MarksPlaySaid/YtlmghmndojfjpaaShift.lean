/- Where a line is behind a change: the program's function and the document's, walked; lines between -2^40 and 2^40. -/
import Derived.Test.YtlmghmndojfjpaaProg
import Derived.Test.YtlmghmndojfjpaaFrame
import Derived.WalkSpells
namespace Go.Proofs.Ytlmghmndojfjpaa.Shf
open Go.RowKit Go.Proofs.Ytlmghmndojfjpaa.Frm
set_option linter.unusedVariables false
set_option linter.unusedSimpArgs false

def wrongB (n : Int) : Bool := decide (n < 0) || decide (n > 1073741824)
theorem wrongB_false {n : Int} (h : wrongB n = false) : 0 ≤ n ∧ n ≤ 1073741824 := by
  simp [wrongB] at h
  exact h

/-- Where a line is. -/
def shift (line at_ old now : Int) : Int × Bool :=
  if wrongB at_ || wrongB old || wrongB now || decide (line < at_) then (line, true)
  else if line - at_ ≥ old then (line + (now - old), true)
  else if line - at_ < now then (line, true)
  else (0, false)

set_option maxHeartbeats 400000 in
theorem wrong_calls (n : Int) (w : World) : Calls Try.prog 20 #[.int .i64 n] w fun e w' => e = .returned (.bool (wrongB n)) ∧ w = w' := by
  by_cases h : n < 0
  · have e : wrongB n = true := by simp [wrongB, h]
    rw [e]
    go_enter Try.func20, Try.ntmps20
    go_wp2
    go_ret
    exact ⟨rfl, rfl⟩
  · have e : wrongB n = decide (1073741824 < n) := by simp [wrongB, h]
    rw [e]
    go_enter Try.func20, Try.ntmps20
    go_wp2
    go_ret
    exact ⟨rfl, rfl⟩

set_option maxHeartbeats 1000000 in
theorem shift_calls (line at_ old now : Int) (w : World) (h0 : -1099511627776 ≤ line) (h1 : line ≤ 1099511627776) :
    Calls Try.prog 9 #[.int .i64 line, .int .i64 at_, .int .i64 old, .int .i64 now] w fun e w' => e = .returned (.tuple #[.int .i64 (shift line at_ old now).1, .bool (shift line at_ old now).2]) ∧ w = w' := by
  cases ha : wrongB at_ with
  | true =>
    have e : shift line at_ old now = (line, true) := by unfold shift; rw [ha]; rfl
    rw [e]
    clear e
    go_enter Try.func9, Try.ntmps9
    go_wp2_with (go_at_call 20; refine (wrong_calls _ _).mono ?_; rintro e w' ⟨rfl, rfl⟩)
    go_ret2
    exact ⟨rfl, rfl⟩
  | false =>
  cases ho : wrongB old with
  | true =>
    have e : shift line at_ old now = (line, true) := by unfold shift; rw [ha, ho]; rfl
    rw [e]
    clear e
    go_enter Try.func9, Try.ntmps9
    go_wp2_with (go_at_call 20; refine (wrong_calls _ _).mono ?_; rintro e w' ⟨rfl, rfl⟩)
    go_ret2
    exact ⟨rfl, rfl⟩
  | false =>
  cases hn : wrongB now with
  | true =>
    have e : shift line at_ old now = (line, true) := by unfold shift; rw [ha, ho, hn]; rfl
    rw [e]
    clear e
    go_enter Try.func9, Try.ntmps9
    go_wp2_with (go_at_call 20; refine (wrong_calls _ _).mono ?_; rintro e w' ⟨rfl, rfl⟩)
    go_ret2
    exact ⟨rfl, rfl⟩
  | false =>
  obtain ⟨a0, a1⟩ := wrongB_false ha
  obtain ⟨o0, o1⟩ := wrongB_false ho
  obtain ⟨n0, n1⟩ := wrongB_false hn
  by_cases hl : line < at_
  · have e : shift line at_ old now = (line, true) := by unfold shift; rw [ha, ho, hn]; simp [hl]
    rw [e]
    clear e
    go_enter Try.func9, Try.ntmps9
    go_wp2_with (go_at_call 20; refine (wrong_calls _ _).mono ?_; rintro e w' ⟨rfl, rfl⟩)
    go_ret2
    exact ⟨rfl, rfl⟩
  · have hl2 : at_ ≤ line := by omega
    by_cases h3 : old ≤ line - at_
    · have e : shift line at_ old now = (line + (now - old), true) := by unfold shift; rw [ha, ho, hn]; simp [hl, h3]
      rw [e]
      clear e
      go_enter Try.func9, Try.ntmps9
      go_wp2_with (go_at_call 20; refine (wrong_calls _ _).mono ?_; rintro e w' ⟨rfl, rfl⟩)
      go_ret2
      exact ⟨rfl, rfl⟩
    · by_cases h4 : line - at_ < now
      · have e : shift line at_ old now = (line, true) := by unfold shift; rw [ha, ho, hn]; simp [hl, h3, h4]
        rw [e]
        clear e
        go_enter Try.func9, Try.ntmps9
        go_wp2_with (go_at_call 20; refine (wrong_calls _ _).mono ?_; rintro e w' ⟨rfl, rfl⟩)
        go_ret2
        exact ⟨rfl, rfl⟩
      · have e : shift line at_ old now = (0, false) := by unfold shift; rw [ha, ho, hn]; simp [hl, h3, h4]
        rw [e]
        clear e
        go_enter Try.func9, Try.ntmps9
        go_wp2_with (go_at_call 20; refine (wrong_calls _ _).mono ?_; rintro e w' ⟨rfl, rfl⟩)
        go_ret2
        exact ⟨rfl, rfl⟩
end Go.Proofs.Ytlmghmndojfjpaa.Shf
