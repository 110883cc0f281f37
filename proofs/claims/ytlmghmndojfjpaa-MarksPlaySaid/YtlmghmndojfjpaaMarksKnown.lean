/- The chapter's example on marks: it holds, and turns nothing. -/
import Derived.Test.YtlmghmndojfjpaaMarksNames
import Derived.Test.YtlmghmndojfjpaaMarksAdjust
import Derived.Test.YtlmghmndojfjpaaStr
namespace Go.Proofs.Ytlmghmndojfjpaa.Mk
open Go.RowKit Go.Shelf Go.Proofs.Ytlmghmndojfjpaa.MapRaw Go.Proofs.Ytlmghmndojfjpaa.Frm Go.Proofs.Ytlmghmndojfjpaa.Keys Go.Proofs.Ytlmghmndojfjpaa.Shf
set_option linter.unusedVariables false
set_option linter.unusedSimpArgs false

def f0 : Nat → Option (Int × Int) := fun _ => none
def f1 : Nat → Option (Int × Int) := fun j => if j = 98 then some (4, 0) else f0 j
def f2 : Nat → Option (Int × Int) := fun j => if j = 97 then some (1, 0) else f1 j
def f3 : Nat → Option (Int × Int) := adj f2 2 0 1
theorem f3_98 : f3 98 = some (5, 0) := by decide
theorem f3_names : names f3 = [97, 98] := by decide +kernel

set_option maxRecDepth 100000 in
set_option maxHeartbeats 4000000 in
theorem known_calls (w : World) : Calls Try.prog 8 #[] w fun e w' => e = .returned (.bool true) ∧ Below w.heap.size w w' := by
  have s1 : shift 5 2 1 3 = (7, true) := by decide
  have s2 : shift 3 2 4 1 = (0, false) := by decide
  go_enter Try.func8, Try.ntmps8
  go_wp2_with fail
  refine (shift_calls 5 2 1 3 _ (by omega) (by omega)).mono ?_
  rintro e w' ⟨rfl, rfl⟩
  rw [s1]
  go_wp2_with fail
  refine (shift_calls 3 2 4 1 _ (by omega) (by omega)).mono ?_
  rintro e w' ⟨rfl, rfl⟩
  rw [s2]
  go_wp2_with fail
  refine (new_calls _).mono ?_
  rintro e w1 ⟨rfl, hA1, hO1⟩
  go_wp2_with fail
  refine (set_yes _ _ f0 98 (4, 0) _ hA1 (by decide)).mono ?_
  rintro e w2 ⟨rfl, hA2, hO2⟩
  go_wp2_with fail
  refine (set_yes _ _ f1 97 (1, 0) _ hA2 (by decide)).mono ?_
  rintro e w3 ⟨rfl, hA3, hO3⟩
  go_wp2_with fail
  refine (set_no _ 65 (0, 0) _ (by decide) (by decide)).mono ?_
  rintro e w4 ⟨rfl, hO4⟩
  have hA4 : At w4 _ _ f2 := At.of hA3 (hO4.block _ (heap_lt hA3.box) (fun h => h)) (hO4.block _ hA3.map.lt (fun h => h))
  go_wp2_with fail
  refine (adjust_calls _ _ f2 2 0 1 _ hA4 ?_ ?_).mono ?_
  · intro k hk
    unfold f2 f1 f0
    rw [if_neg (by omega), if_neg (by omega)]
  · intro k p hk
    unfold f2 f1 f0 at hk
    split at hk
    · simp at hk; subst hk; decide
    · split at hk
      · simp at hk; subst hk; decide
      · cases hk
  rintro e w5 ⟨rfl, hA5, hO5⟩
  have hA5 : At w5 _ _ f3 := hA5
  go_wp2_with fail
  refine (get_calls _ _ f3 98 _ hA5 (by decide)).mono ?_
  rintro e w6 ⟨rfl, hO6⟩
  rw [f3_98]
  simp only [posOr, posV, Option.getD_some, Option.isSome_some]
  have hA6 : At w6 _ _ f3 := At.of hA5 (hO6.block _ (heap_lt hA5.box) (fun h => h)) (hO6.block _ hA5.map.lt (fun h => h))
  go_wp2_with fail
  have hs6 := hA6.box
  refine (names_calls _ _ f3 _ (At.of hA6 ?_ ?_) (by rw [f3_names]; decide)).mono ?_
  · exact Below.heap_alloc _ _ _ (heap_lt hA6.box)
  · exact Below.heap_alloc _ _ _ hA6.map.lt
  rintro e w7 ⟨v, rfl, hrow, hb7⟩
  have hstr := run_string_row (src := 32) (dst := 9) Try.underlying32 Try.underlying9 hrow
  rw [f3_names] at hstr
  have e1 : str8 [97, 98] = { data := #[97, 98] } := by decide
  rw [e1] at hstr
  go_wp2
  go_ret
  have hall : Only (fun k => k = w.heap.size) w w6 := ((((((hO1.mono (fun _ _ h => h.elim)).trans' hO2).trans' hO3).trans hO4 (fun _ _ h => h.elim)).trans' hO5).trans hO6 (fun _ _ h => h.elim))
  exact ⟨rfl, ((hall.alloc _).call hb7).below (Nat.le_refl _) (fun k hk => by omega)⟩
#print axioms known_calls
end Go.Proofs.Ytlmghmndojfjpaa.Mk
