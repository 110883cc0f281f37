/- The program's marks: Names, walked, at as many as the sort's bound lets in. -/
import Derived.Test.YtlmghmndojfjpaaMarksBase
import Derived.Test.YtlmghmndojfjpaaSorted
namespace Go.Proofs.Ytlmghmndojfjpaa.Mk
open Go.RowKit Go.Shelf Go.Proofs.Ytlmghmndojfjpaa.MapRaw Go.Proofs.Ytlmghmndojfjpaa.Frm Go.Proofs.Ytlmghmndojfjpaa.Keys
set_option linter.unusedVariables false
set_option linter.unusedSimpArgs false

/-- The names that are set, in order. -/
def names (f : Nat → Option (Int × Int)) : List Nat := (List.range 256).filter fun k => (f k).isSome
theorem names_keys (f : Nat → Option (Int × Int)) : keysOf (fun k => (f k).map posV) = names f := by
  unfold keysOf names
  congr 1
  funext k
  show ((f k).map posV).isSome = (f k).isSome
  cases f k <;> rfl

set_option maxHeartbeats 1000000 in
theorem names_calls (B M : Nat) (f : Nat → Option (Int × Int)) (w : World) (h : At w B M f) (hf : (names f).length ≤ 12) :
    Calls Try.prog 18 #[.pointer (some ⟨B, 0, none⟩)] w fun e w' => ∃ v, e = .returned v ∧ w'.ownsRow w.heap.size 5 1 v (names f).length ((names f).map enc8) ∧ Below w.heap.size w w' := by
  have hBs := heap_lt h.box
  have hMs := h.map.lt
  have hcB := cell_of_one h.box
  have hkf : (keysOf (fun k => (f k).map posV)).length ≤ 12 := by rw [names_keys]; exact hf
  obtain ⟨W, hW⟩ : ∃ W, w.alloc (.cells #[.map (some M)] 51) = W := ⟨_, rfl⟩
  have hWs : W.heap.size = w.heap.size + 1 := by rw [← hW]; simp
  have hbox : W.heap[w.heap.size]? = some (.cells #[.map (some M)] 51 (0, 0)) := by rw [← hW]; exact alloc_new _ _
  have hraw : Raw Try.prog 5 W M (fun k => (f k).map posV) := h.map.block (by rw [← hW]; exact Below.heap_alloc _ _ _ hMs)
  have hseq := keys1_stops W.heap.size w.heap.size M _ W hbox hraw (by omega) (by omega) (Nat.le_refl _) 2 (by omega)
  have hbW : Below w.heap.size w W := by rw [← hW]; exact (Below.refl _ w).alloc (Nat.le_refl _) _
  have HW := Lib.hid hWs
  have hle : w.heap.size ≤ W.heap.size := by omega
  clear hWs hbox hraw hkf h
  subst hW
  go_enter Try.func18, Try.ntmps18
  go_wp2_with (go_at_call 24; refine (keys_calls M _).mono ?_; rintro e w' ⟨rfl, rfl⟩)
  refine (sorted_calls 28 _ (enters_of Try.func28 (by kernel_rfl) rfl) _ (by rw [names_keys]; exact hf) _ _ hseq).mono ?_
  rintro e w' ⟨v, rfl, hrow, hb⟩
  rw [names_keys] at hrow
  go_wp2
  go_ret
  exact ⟨v, rfl, row_lower hrow hle, hbW.trans (hb.mono hle)⟩
end Go.Proofs.Ytlmghmndojfjpaa.Mk
