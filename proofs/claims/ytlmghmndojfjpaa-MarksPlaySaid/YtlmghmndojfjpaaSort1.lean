/- The library's sort at bytes: bits.Len at small numbers; Sort of at most twelve. -/
import Derived.Test.YtlmghmndojfjpaaSort0
namespace Go.Proofs.Ytlmghmndojfjpaa.Srt
open Go.RowKit Go.Proofs.Ytlmghmndojfjpaa.Frm
set_option linter.unusedVariables false
set_option linter.unusedSimpArgs false

/-- Some number that may be. -/
def SomeLen (w : World) (e : Ending) (w' : World) : Prop := ∃ r : Int, 0 ≤ r ∧ r ≤ 255 ∧ e = .returned (.int .i64 r) ∧ w = w'

theorem someLen_mk (b : UInt8) (w : World) : SomeLen w (.returned (.int .i64 (wrap64 (wrap64 (b.toNat : Int))))) w := by
  have h := b.toNat_lt
  exact ⟨(b.toNat : Int), by omega, by omega, by rw [show wrap64 (wrap64 (b.toNat : Int)) = (b.toNat : Int) by unfold wrap64; omega], rfl⟩

set_option maxRecDepth 100000 in
set_option maxHeartbeats 2000000 in
theorem len64_calls (x : Int) (w : World) (h0 : 0 ≤ x) (h1 : x ≤ 255) : Calls Try.prog 42 #[.int .u64 x] w (SomeLen w) := by
  have g1 : ¬ (4294967296 ≤ x) := by omega
  have g2 : ¬ (65536 ≤ x) := by omega
  have g3 : ¬ (256 ≤ x) := by omega
  go_enter Try.func42, Try.ntmps42
  go_wp2
  go_ret
  exact someLen_mk _ _

set_option maxHeartbeats 1000000 in
theorem len_calls (x : Int) (w : World) (h0 : 0 ≤ x) (h1 : x ≤ 255) : Calls Try.prog 31 #[.int .u64 x] w (SomeLen w) := by
  go_enter Try.func31, Try.ntmps31
  go_wp2_with (go_at_call 42; refine (len64_calls _ _ h0 h1).mono ?_; rintro e w' ⟨r, hr0, hr1, rfl, rfl⟩)
  go_ret
  exact ⟨r, hr0, hr1, rfl, rfl⟩

set_option maxRecDepth 100000 in
set_option maxHeartbeats 2000000 in
theorem pdq_small (g s n c : Nat) (x : Nat → Int) (a b : Nat) (lim : Int) (hab : a ≤ b) (hb : b ≤ n) (hn : n ≤ 4096) (hs : b ≤ a + 12) (w : World) (h : Arr w g s n x) :
    Calls Try.prog 30 #[.slice (some ⟨g, 0, none⟩) n c, .int .i64 (a : Int), .int .i64 (b : Int), .int .i64 lim] w fun e w' => e = .returned (.tuple #[]) ∧ ∃ y, Arr w' g s n y ∧ Prm a b x y ∧ Srtd y a b ∧ Only (fun k => k = g) w w' := by
  have g1 : (b : Int) - (a : Int) ≤ 12 := by omega
  have g2 : 0 ≤ (b : Int) - (a : Int) := by omega
  go_enter Try.func30, Try.ntmps30
  go_wp2
  refine wp_loop_rounds 1 ?_
  rw [rounds_succ]
  go_wp2_with (go_at_call 32; refine (insertion_calls g s n c x a b hab hb hn _ h).mono ?_; rintro e w' ⟨rfl, y, hA, hP, hS, hO⟩)
  (try simp only [Exit.inBlock, Exit.then])
  refine bodyPost_ret (results_none rfl _ _ _) rfl ?_
  exact ⟨rfl, y, hA, hP, hS, hO⟩

/-! ### nothing to sort -/
set_option maxHeartbeats 1000000 in
theorem insertion_nil (w : World) : Calls Try.prog 32 #[.slice none 0 0, .int .i64 0, .int .i64 0] w fun e w' => e = .returned (.tuple #[]) ∧ w = w' := by
  go_enter Try.func32, Try.ntmps32
  go_wp2
  refine wp_loop_rounds 1 ?_
  rw [rounds_succ]
  go_wp2
  go_end0
  exact ⟨rfl, rfl⟩
set_option maxHeartbeats 1000000 in
theorem pdq_nil (lim : Int) (w : World) : Calls Try.prog 30 #[.slice none 0 0, .int .i64 0, .int .i64 0, .int .i64 lim] w fun e w' => e = .returned (.tuple #[]) ∧ w = w' := by
  go_enter Try.func30, Try.ntmps30
  go_wp2
  refine wp_loop_rounds 1 ?_
  rw [rounds_succ]
  go_wp2_with (go_at_call 32; refine (insertion_nil _).mono ?_; rintro e w' ⟨rfl, rfl⟩)
  (try simp only [Exit.inBlock, Exit.then])
  refine bodyPost_ret (results_none rfl _ _ _) rfl ?_
  exact ⟨rfl, rfl⟩

set_option maxHeartbeats 1000000 in
theorem sort_nil (w : World) : Calls Try.prog 27 #[.slice none 0 0] w fun e w' => e = .returned (.tuple #[]) ∧ w = w' := by
  go_enter Try.func27, Try.ntmps27
  go_wp2_with (first | (go_at_call 31; refine (len_calls _ _ (by omega) (by omega)).mono ?_; rintro e w' ⟨r, hr0, hr1, rfl, rfl⟩) | (go_at_call 30; refine (pdq_nil _ _).mono ?_; rintro e w' ⟨rfl, rfl⟩))
  go_end0
  exact ⟨rfl, rfl⟩

set_option maxHeartbeats 1000000 in
theorem sort_arr (g s n c : Nat) (x : Nat → Int) (hn : n ≤ 12) (w : World) (h : Arr w g s n x) :
    Calls Try.prog 27 #[.slice (some ⟨g, 0, none⟩) n c] w fun e w' => e = .returned (.tuple #[]) ∧ ∃ y, Arr w' g s n y ∧ Prm 0 n x y ∧ Srtd y 0 n ∧ Only (fun k => k = g) w w' := by
  go_enter Try.func27, Try.ntmps27
  go_wp2_with (first | (go_at_call 31; refine (len_calls _ _ (by omega) (by omega)).mono ?_; rintro e w' ⟨r, hr0, hr1, rfl, rfl⟩) | (go_at_call 30; refine (pdq_small g s n c x 0 n _ (by omega) (by omega) (by omega) (by omega) _ h).mono ?_; rintro e w' ⟨rfl, y, hA, hP, hS, hO⟩))
  go_end0
  exact ⟨rfl, y, hA, hP, hS, hO⟩
#print axioms sort_arr
end Go.Proofs.Ytlmghmndojfjpaa.Srt
