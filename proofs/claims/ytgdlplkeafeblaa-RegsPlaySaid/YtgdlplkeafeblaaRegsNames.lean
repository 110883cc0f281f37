/- The program's registers: Names, walked, at as many as the sort's bound lets in; no register is great. -/
import Derived.Test.YtgdlplkeafeblaaRegsYC
import Derived.Test.YtgdlplkeafeblaaStr
namespace Go.Proofs.Ytgdlplkeafeblaa.Rg
open Go.RowKit Go.Shelf Go.Proofs.Ytgdlplkeafeblaa.MapRaw Go.Proofs.Ytgdlplkeafeblaa.Frm Go.Proofs.Ytgdlplkeafeblaa.Lns Go.Proofs.Ytgdlplkeafeblaa.Keys
set_option linter.unusedVariables false
set_option linter.unusedSimpArgs false

/-- The names that are set, in order. -/
def names (f : Nat → Option Reg) : List Nat := (List.range 256).filter fun k => (f k).isSome
theorem Rel.some {w : World} {o : Option Value} {p : Option Reg} (h : Rel w o p) : o.isSome = p.isSome := by
  cases o <;> cases p <;> first | rfl | exact h.elim
theorem names_keys {w : World} {g : Nat → Option Value} {f : Nat → Option Reg} (h : ∀ k, Rel w (g k) (f k)) : keysOf g = names f := by
  unfold keysOf names
  congr 1
  funext k
  exact (h k).some

set_option maxHeartbeats 1000000 in
theorem names_calls (B M : Nat) (f : Nat → Option Reg) (w : World) (h : At w B M f) (hf : (names f).length ≤ 12) :
    Calls Try.prog 28 #[.pointer (some ⟨B, 0, none⟩)] w fun e w' => ∃ v, e = .returned v ∧ w'.ownsRow w.heap.size 5 1 v (names f).length ((names f).map enc8) ∧ Below w.heap.size w w' := by
  have hBs := heap_lt h.box
  have hMs := h.lt
  have hcB := cell_of_one h.box
  obtain ⟨g, hg, hr⟩ := h.map
  have hnk := names_keys hr
  have hkf : (keysOf g).length ≤ 12 := by rw [hnk]; exact hf
  obtain ⟨W, hW⟩ : ∃ W, w.alloc (.cells #[.map (some M)] 57) = W := ⟨_, rfl⟩
  have hWs : W.heap.size = w.heap.size + 1 := by rw [← hW]; simp
  have hbox : W.heap[w.heap.size]? = some (.cells #[.map (some M)] 57 (0, 0)) := by rw [← hW]; exact alloc_new _ _
  have hraw : Raw Try.prog 5 W M g := hg.block (by rw [← hW]; exact Below.heap_alloc _ _ _ hMs)
  have hseq := keys1_stops W.heap.size w.heap.size M _ W hbox hraw (by omega) (by omega) (Nat.le_refl _) 2 (by omega)
  have hbW : Below w.heap.size w W := by rw [← hW]; exact (Below.refl _ w).alloc (Nat.le_refl _) _
  have HW := Lib.hid hWs
  have hle : w.heap.size ≤ W.heap.size := by omega
  have HK := Lib.hid hnk
  clear hWs hbox hraw h hg hr hnk
  subst hW
  go_enter Try.func28, Try.ntmps28
  go_wp2_with (go_at_call 38; refine (keys_calls M _).mono ?_; rintro e w' ⟨rfl, rfl⟩)
  refine (sorted_calls 43 _ (enters_of Try.func43 (by kernel_rfl) rfl) _ hkf _ _ hseq).mono ?_
  rintro e w' ⟨v, rfl, hrow, hb⟩
  rw [HK.out] at hrow
  go_wp2
  go_ret
  exact ⟨v, rfl, row_lower hrow hle, hbW.trans (hb.mono hle)⟩

theorem bd_none : Bd (fun _ => none) := fun k r h => by cases h
theorem bd_upd {f : Nat → Option Reg} (h : Bd f) {k : Nat} {r : Reg} (hr : sizeL r.2 ≤ 4096) : Bd (updR f k (some r)) := by
  intro j q hj
  unfold updR at hj
  split at hj
  · cases hj; exact hr
  · exact h j q hj
theorem bd_shift {f : Nat → Option Reg} (h : Bd f) (j : Nat) : Bd (shiftTo f j) := by
  intro k q hk
  unfold shiftTo at hk
  split at hk
  · cases e : f (k - 1) with
    | none => rw [e] at hk; exact h k q hk
    | some was => rw [e] at hk; cases hk; exact h _ _ e
  · exact h k q hk
theorem bd_cutF {f : Nat → Option Reg} (h : Bd f) {r : Reg} (hr : sizeL r.2 ≤ 4096) : Bd (cutF f r) := by
  unfold cutF
  split
  · exact bd_upd h hr
  · exact bd_upd (bd_shift h _) hr
theorem bd_put {f : Nat → Option Reg} (h : Bd f) (n : Nat) (r : Reg) : Bd (putF f n r) := by
  unfold putF
  split
  · rename_i e
    exact bd_upd h (putE_letter e).2
  · exact h
theorem bd_set {f : Nat → Option Reg} {f' : Nat → Option Reg} (h : Bd f) (n : Nat) (r : Reg) (h' : sizeL r.2 ≤ 4096 → Bd f') : Bd (setF f f' n r) := by
  unfold setF
  split
  · exact h
  · split
    · split
      · exact h
      · exact bd_upd (h' (by omega)) (by omega)
    · split
      · rename_i e
        exact bd_upd (bd_put h n r) (putE_letter e).2
      · exact h
theorem bd_yank {f : Nat → Option Reg} (h : Bd f) (n : Nat) (r : Reg) : Bd (setF f (updR f 48 (some r)) n r) := bd_set h n r (fun hr => bd_upd h hr)
theorem bd_cut {f : Nat → Option Reg} (h : Bd f) (n : Nat) (r : Reg) : Bd (setF f (cutF f r) n r) := bd_set h n r (fun hr => bd_cutF h hr)
end Go.Proofs.Ytgdlplkeafeblaa.Rg
