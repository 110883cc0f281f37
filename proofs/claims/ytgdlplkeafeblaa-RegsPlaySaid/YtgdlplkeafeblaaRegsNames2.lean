/- The program's registers: Names, walked, however many; no condition. -/
import Derived.Test.YtgdlplkeafeblaaRegsNames
import Derived.Test.YtgdlplkeafeblaaSorted2
namespace Go.Proofs.Ytgdlplkeafeblaa.Rg
open Go.RowKit Go.Shelf Go.Proofs.Ytgdlplkeafeblaa.MapRaw Go.Proofs.Ytgdlplkeafeblaa.Frm Go.Proofs.Ytgdlplkeafeblaa.Lns Go.Proofs.Ytgdlplkeafeblaa.Keys
set_option linter.unusedVariables false
set_option linter.unusedSimpArgs false

set_option maxHeartbeats 1000000 in
theorem names_all (B M : Nat) (f : Nat → Option Reg) (w : World) (h : At w B M f) :
    Calls Try.prog 28 #[.pointer (some ⟨B, 0, none⟩)] w fun e w' => ∃ v, e = .returned v ∧ w'.ownsRow w.heap.size 5 1 v (names f).length ((names f).map enc8) ∧ Below w.heap.size w w' := by
  have hBs := heap_lt h.box
  have hMs := h.lt
  have hcB := cell_of_one h.box
  obtain ⟨g, hg, hr⟩ := h.map
  have hnk := names_keys hr
  obtain ⟨W, hW⟩ : ∃ W, w.alloc (.cells #[.map (some M)] 57) = W := ⟨_, rfl⟩
  have hWs : W.heap.size = w.heap.size + 1 := by rw [← hW]; simp
  have hbox : W.heap[w.heap.size]? = some (.cells #[.map (some M)] 57 (0, 0)) := by rw [← hW]; exact alloc_new _ _
  have hraw : Raw Try.prog 5 W M g := hg.block (by rw [← hW]; exact Below.heap_alloc _ _ _ hMs)
  have hseq := keys1_stops W.heap.size w.heap.size M _ W hbox hraw (by omega) (by omega) (Nat.le_refl _) 2 (by omega)
  have hbW : Below w.heap.size w W := by rw [← hW]; exact (Below.refl _ w).alloc (Nat.le_refl _) _
  have HW := Lib.hid hWs
  have hle : w.heap.size ≤ W.heap.size := by omega
  have HK := Lib.hid hnk
  clear hWs hbox hraw h hg hr hnk
  subst hW
  go_enter Try.func28, Try.ntmps28
  go_wp2_with (go_at_call 38; refine (keys_calls M _).mono ?_; rintro e w' ⟨rfl, rfl⟩)
  refine (sorted_all 43 _ (enters_of Try.func43 (by kernel_rfl) rfl) _ _ _ hseq).mono ?_
  rintro e w' ⟨v, rfl, hrow, hb⟩
  rw [HK.out] at hrow
  go_wp2
  go_ret
  exact ⟨v, rfl, row_lower hrow hle, hbW.trans (hb.mono hle)⟩
end Go.Proofs.Ytgdlplkeafeblaa.Rg
