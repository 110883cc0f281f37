/- ViewShown: for every first line and every count, the program's window begins at the first line, clamped to the text, and is as high as a window is, or as there are lines; proved for every input, under no condition. -/
import Derived.Test.YtflaekclhojhdaaPViewShownx1
namespace Go.Proofs.Ytflaekclhojhdaa.Pure
open Go.RowKit Go.Proofs.Ytflaekclhojhdaa.PViewShown Go.Proofs.YtflaekclhojhdaaW.PrintWords Go.Proofs.YtflaekclhojhdaaW.PrintLast Go.Proofs.YtflaekclhojhdaaW.PrintMore

theorem shown_known : foolscaplaw30_known.f = some true := by decide +kernel

theorem shown_first (a n : Int) (h0 : 0 ≤ n) (h1 : n < 60) :
    view_first.f a n = some (mn (mx a 0) (mx (n - 1) 0)) := by
  unfold view_first.f view_near.f
  simp only [Option.bind_some]
  congr 1
  unfold mn mx wrap64
  (repeat' split) <;> omega

theorem shown_mod (b : Int) (h0 : 0 ≤ b) : wrap64 (Int.tmod b 60) = b % 60 := by
  rw [Int.tmod_eq_emod_of_nonneg h0]
  unfold wrap64
  omega

theorem ViewShown : foolscaplaw30_ViewShown.Pure := by
  intro a b ha hb
  have hb0 : 0 ≤ b := by
    simp only [Lit.wf, Bool.and_eq_true, decide_eq_true_eq] at hb
    have : IntKind.u16.min = 0 := by decide
    omega
  unfold foolscaplaw30_ViewShown.f
  rw [shown_known, shown_mod b hb0]
  simp only [Option.bind_some, if_true]
  obtain ⟨n, hn⟩ : ∃ n, b % 60 = n := ⟨_, rfl⟩
  have h0 : 0 ≤ n := by omega
  have h1 : n < 60 := by omega
  rw [hn]
  clear hn hb hb0 ha
  unfold view_Shown.f view_Scroll.f
  rw [shown_first a n h0 h1]
  unfold view_near.f
  simp only [Option.bind_some]
  by_cases e : n = 0
  · subst e
    rw [if_pos rfl]
    rw [if_pos (by unfold mn mx; (repeat' split) <;> omega)]
    congr 1
    simp only [beq_iff_eq]
    unfold mn mx wrap64
    (repeat' split) <;> omega
  · rw [if_neg e]
    have hm : mn (mx a 0) (mx (n - 1) 0) = mn (mx a 0) (wrap64 (n - 1)) := by
      unfold mn mx wrap64; (repeat' split) <;> omega
    obtain ⟨t, ht⟩ : ∃ t, mn (mx a 0) (wrap64 (n - 1)) = t := ⟨_, rfl⟩
    have ht0 : 0 ≤ t := by rw [← ht]; unfold mn mx wrap64; (repeat' split) <;> omega
    have ht1 : t < n := by rw [← ht]; unfold mn mx wrap64; (repeat' split) <;> omega
    rw [hm, ht]
    rw [if_pos rfl]
    have hh : mn (wrap64 (t + 10)) (mx (mn (mx n (-1073741824)) 1073741824) 0) = mn (wrap64 (t + 10)) n := by
      unfold mn mx wrap64; (repeat' split) <;> omega
    rw [if_pos hh]
    rw [if_neg (by omega), if_neg (by unfold mn mx; (repeat' split) <;> omega), if_neg (by unfold mn mx wrap64; (repeat' split) <;> omega)]
    simp

end Go.Proofs.Ytflaekclhojhdaa.Pure
