import Derived.Test.YtflaekclhojhdaaPViewScrollsx1
namespace Go.Proofs.Ytflaekclhojhdaa.ScrollsPure
open Go.RowKit Go.Proofs.Ytflaekclhojhdaa.PViewScrolls Go.Proofs.YtflaekclhojhdaaW.PrintWords Go.Proofs.YtflaekclhojhdaaW.PrintLast Go.Proofs.YtflaekclhojhdaaW.PrintMore

theorem known_true : foolscaplaw30_known.f = some true := by decide +kernel

/-- The first line, clamped. -/
def top (x z : Int) : Int := mn (mx x 0) (mn z 1073741824 - 1)
/-- The line, brought near. -/
def lin (y : Int) : Int := mn (mx y (-1073741824)) 1073741824
/-- Where the window begins. -/
def scr (x y z : Int) : Int := if z < 1 then 0 else if lin y < top x z then mx (lin y) 0 else if lin y - top x z ≥ 10 then lin y - 9 else top x z
/-- The window's end. -/
def fin (x z : Int) : Int := if z < 1 then 0 else mn (top x z + 10) (mn z 1073741824)
def fst (x z : Int) : Int := if z < 1 then 0 else top x z

theorem top_bd {x z : Int} (hz : 1 ≤ z) : 0 ≤ top x z ∧ top x z < z ∧ top x z < 1073741824 := by
  unfold top mn mx; (repeat' split) <;> omega
theorem lin_bd (y : Int) : -1073741824 ≤ lin y ∧ lin y ≤ 1073741824 := by
  unfold lin mn mx; (repeat' split) <;> omega

theorem first_pos {x z : Int} (hz : 1 ≤ z) : view_first.f x z = some (top x z) := by
  unfold view_first.f view_near.f
  simp only [Option.bind_some]
  congr 1
  unfold top mn mx wrap64; (repeat' split) <;> omega
theorem first_neg {x z : Int} (hz : z < 1) : view_first.f x z = some 0 := by
  unfold view_first.f view_near.f
  simp only [Option.bind_some]
  congr 1
  unfold mn mx wrap64; (repeat' split) <;> omega

theorem scroll_is (x y z : Int) : view_Scroll.f x y z = some (scr x y z) := by
  unfold view_Scroll.f scr
  by_cases hz : z < 1
  · rw [first_neg hz]; unfold view_near.f; simp only [Option.bind_some]; rw [if_pos hz, if_pos hz]
  · rw [first_pos (by omega)]; unfold view_near.f; simp only [Option.bind_some]
    rw [if_neg hz, if_neg hz]
    have ht := top_bd (x := x) (z := z) (by omega)
    have hl := lin_bd y
    rw [show mn (mx y (-1073741824)) 1073741824 = lin y from rfl]
    have e1 : wrap64 (lin y - top x z) = lin y - top x z := by unfold wrap64; omega
    have e2 : wrap64 (wrap64 (lin y - 10) + 1) = lin y - 9 := by unfold wrap64; omega
    rw [e1, e2]
    split
    · rfl
    · split <;> rfl

theorem ref_scroll_is (x y z : Int) : foolscapref25_Scroll.f x y z = some (scr x y z) := by
  unfold foolscapref25_Scroll.f scr
  by_cases hz : z < 1
  · rw [if_pos hz, if_pos hz]
  · rw [if_neg hz, if_neg hz]
    have ht := top_bd (x := x) (z := z) (by omega)
    have hl := lin_bd y
    have e0 : mn (mx x 0) (wrap64 (mn z 1073741824 - 1)) = top x z := by
      unfold top mn mx wrap64; (repeat' split) <;> omega
    have e3 : wrap64 (top x z + 10) = top x z + 10 := by unfold wrap64; omega
    rw [show mn (mx y (-1073741824)) 1073741824 = lin y from rfl, e0, e3]
    by_cases a : lin y < top x z
    · rw [if_pos a, if_pos a, if_neg (by unfold mx; split <;> omega)]
    · rw [if_neg a, if_neg a]
      by_cases b : lin y ≥ top x z + 10
      · rw [if_pos b, if_pos (by omega)]; congr 1; omega
      · rw [if_neg b, if_neg (by omega)]

theorem shown_is (x z : Int) : view_Shown.f x z = some (fst x z, fin x z) := by
  unfold view_Shown.f fst fin
  by_cases hz : z < 1
  · rw [first_neg hz]; unfold view_near.f; simp only [Option.bind_some]; rw [if_pos hz, if_pos hz]
    congr 2
    unfold mn mx wrap64; (repeat' split) <;> omega
  · rw [first_pos (by omega)]; unfold view_near.f; simp only [Option.bind_some]; rw [if_neg hz, if_neg hz]
    have ht := top_bd (x := x) (z := z) (by omega)
    congr 2
    unfold mn mx wrap64; (repeat' split) <;> omega

theorem ref_shown_is (x z : Int) : foolscapref25_Shown.f x z = some (fst x z, fin x z) := by
  unfold foolscapref25_Shown.f fst fin
  by_cases hz : z < 1
  · rw [if_pos hz, if_pos hz, if_pos hz]
  · rw [if_neg hz, if_neg hz, if_neg hz]
    have ht := top_bd (x := x) (z := z) (by omega)
    have e0 : mn (mx x 0) (wrap64 (mn z 1073741824 - 1)) = top x z := by
      unfold top mn mx wrap64; (repeat' split) <;> omega
    have e3 : wrap64 (top x z + 10) = top x z + 10 := by unfold wrap64; omega
    rw [e0, e3]

/-- Behind a scroll the line is in the window, which is as high as may be; and a second scroll changes nothing. -/
theorem after (x y z : Int) (h0 : 0 ≤ y) (h1 : y < z) (h2 : z < 1073741824) :
    fst (scr x y z) z ≤ y ∧ y < fin (scr x y z) z ∧ fin (scr x y z) z - fst (scr x y z) z ≤ 10 ∧ 0 ≤ fst (scr x y z) z ∧ scr (scr x y z) y z = scr x y z := by
  have ht := top_bd (x := x) (z := z) (by omega)
  have hl : lin y = y := by unfold lin mn mx; (repeat' split) <;> omega
  obtain ⟨t, e⟩ : ∃ t, scr x y z = t := ⟨_, rfl⟩
  have hs : 0 ≤ t ∧ t ≤ y ∧ y < t + 10 ∧ t < z := by
    rw [← e]
    unfold scr
    rw [if_neg (by omega), hl]
    split
    · unfold mx; split <;> omega
    · split <;> omega
  rw [e]
  have et : top t z = t := by unfold top mn mx; (repeat' split) <;> omega
  unfold scr fst fin
  rw [if_neg (by omega), if_neg (by omega), if_neg (by omega), hl, et, if_neg (by omega), if_neg (by omega)]
  refine ⟨by omega, ?_, ?_, by omega, rfl⟩
  · unfold mn; (repeat' split) <;> omega
  · unfold mn; (repeat' split) <;> omega

end Go.Proofs.Ytflaekclhojhdaa.ScrollsPure
