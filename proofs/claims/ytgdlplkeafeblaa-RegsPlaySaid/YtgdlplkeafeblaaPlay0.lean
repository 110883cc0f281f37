/- A script's beginning: both files empty; what is kept by each act; a box is written. -/
import Derived.Test.YtgdlplkeafeblaaRegsSame
import Derived.Test.YtgdlplkeafeblaaSt
namespace Go.Proofs.Ytgdlplkeafeblaa.Rf
open Go.RowKit Go.Shelf Go.Proofs.Ytgdlplkeafeblaa.MapRaw Go.Proofs.Ytgdlplkeafeblaa.Frm Go.Proofs.Ytgdlplkeafeblaa.Lns Go.Proofs.Ytgdlplkeafeblaa.Rg Go.Proofs.Ytgdlplkeafeblaa.Keys
set_option linter.unusedVariables false
set_option linter.unusedSimpArgs false

/-- A name that lies in a file is its own key. -/
def KOk (f : Nat → Option Reg) : Prop := ∀ k r, f k = some r → Rg.keyOf k = k
theorem kok_none : KOk (fun _ => none) := fun k r h => by cases h
theorem kok_upd {f : Nat → Option Reg} (h : KOk f) {k : Nat} (hk : Rg.keyOf k = k) (v : Option Reg) : KOk (updR f k v) := by
  intro j r hj
  unfold updR at hj
  split at hj
  · rename_i e; rw [e]; exact hk
  · exact h j r hj
theorem kok_shift {f : Nat → Option Reg} (h : KOk f) (j : Nat) : KOk (shiftTo f j) := by
  intro k r hk
  unfold shiftTo at hk
  split at hk
  · rename_i e
    unfold Rg.keyOf
    rw [if_neg (by omega), if_neg (by omega)]
  · exact h k r hk
theorem kok_cut {f : Nat → Option Reg} (h : KOk f) (r : Reg) : KOk (cutF f r) := by
  unfold cutF
  split
  · exact kok_upd h rfl _
  · exact kok_upd (kok_shift h 49) rfl _
theorem keyL_key {n : Nat} (h : isLetter n = true) : Rg.keyOf (keyL n) = keyL n := by
  unfold isLetter isLow isCap at h
  simp only [Bool.or_eq_true, Bool.and_eq_true, decide_eq_true_eq] at h
  unfold keyL isCap Rg.keyOf
  by_cases h1 : 65 ≤ n ∧ n ≤ 90
  · have : (decide (65 ≤ n) && decide (n ≤ 90)) = true := by simp [h1]
    rw [if_pos this, if_neg (by omega), if_neg (by omega)]
  · have : ¬ (decide (65 ≤ n) && decide (n ≤ 90)) = true := by simpa using h1
    rw [if_neg this, if_neg (by omega), if_neg h1]
theorem kok_put {f : Nat → Option Reg} (h : KOk f) (n : Nat) (r : Reg) : KOk (putF f n r) := by
  unfold putF
  split
  · rename_i e
    have hl : isLetter n = true := by
      unfold putE at e
      split at e
      · assumption
      · cases e
    exact kok_upd h (keyL_key hl) _
  · exact h
theorem kok_set {f f' : Nat → Option Reg} (h : KOk f) (h' : KOk f') (n : Nat) (r : Reg) : KOk (setF f f' n r) := by
  unfold setF
  repeat' split
  · exact h
  · exact h
  · exact kok_upd h' rfl _
  · exact kok_upd (kok_put h n r) rfl _
  · exact h

section
variable {w0 w w' : World} {B M P : Nat} {f g : Nat → Option Reg} {fs : List Fact}
theorem St2.write (h : St2 w0 w B M f P g fs) {p : Nat} {cs cs' : Array Value} (hp : w.heap[p]? = some (.cells cs 24 (0, 0))) (hge : w0.heap.size ≤ p) (haw : ¬ Foot w P p)
    (hbare : ∀ (o : Nat) s, cs[o]? ≠ some (.string s)) (ho : Only (fun b => b = p) w w') (hn : w'.heap[p]? = some (.cells cs' 24 (0, 0))) (hB : B ≠ p) {gs : List Fact}
    (hs : ∀ x ∈ gs, x = .cells p cs' 24 ∨ (x ∈ fs ∧ ∀ b ds t', x = .cells b ds t' → b ≠ p)) : St2 w0 w' B M f P g gs := by
  have hr := h.rst.write hp hge haw hbare ho hn hs
  have hbp : ∀ b, b < w.heap.size → b = p → Bare w b := fun b _ e => by subst e; exact bare_cells hp hbare
  refine ⟨h.reg.only ho hbp (fun e => hB e) (fun e => St2.notmap h.reg hp e.symm), h.bd, h.ge, hr, fun hb => h.away ?_⟩
  obtain ⟨v1, v2, q, hbox, _⟩ := h.rst.r.ex
  rcases hb with rfl | ⟨u1, u2, hu, hb⟩
  · exact .inl rfl
  · rw [ho.block P (heap_lt hbox) (fun e => haw (.inl e.symm))] at hu
    exact .inr ⟨u1, u2, hu, hb⟩

theorem names_none : Rg.names (fun _ => none) = [] := by
  show Ins.nms _ = []
  unfold Ins.nms
  rw [List.filter_eq_nil_iff]
  intro a _; simp [has]
theorem start2 (h : St w0 w B M (fun _ => none) []) : St2 w0 (w.alloc (.cells #[.slice none 0 0, .slice none 0 0] 45)) B M (fun _ => none) w.heap.size (fun _ => none) [] := by
  obtain ⟨W, hW⟩ : ∃ W, w.alloc (.cells #[.slice none 0 0, .slice none 0 0] 45) = W := ⟨_, rfl⟩
  have hA := h.alloc #[.slice none 0 0, .slice none 0 0] 45
  rw [hW] at hA ⊢
  have hbox : W.heap[w.heap.size]? = some (.cells #[.slice none 0 0, .slice none 0 0] 45 (0, 0)) := hA.i0
  have hfoot : ∀ b, Foot W w.heap.size b → b = w.heap.size := by
    intro b hb
    rcases hb with rfl | ⟨u1, u2, hu, hb⟩
    · rfl
    · rw [hbox] at hu
      simp at hu
      obtain ⟨rfl, rfl⟩ := hu
      cases hb
  have hge : w0.heap.size ≤ w.heap.size := h.bel.size
  have hR : RAt W w0.heap.size w.heap.size (fun _ => none) := by
    refine ⟨⟨_, _, fun _ => (0, none, 0, 0), hbox, ?_, ?_, fun k r hk => (by cases hk), fun b hb => (by cases hb)⟩, hge⟩
    · rw [names_none]; exact World.ownsRow_nil _ _ _ _
    · rw [names_none]; exact World.ownsRow_nil _ _ _ _
  have hAt := hA.reg
  exact ⟨hA.reg, hA.bd, h.ge, ⟨hR, Only.of_below hA.bel, fun b hb => .inr (by rw [hfoot b hb]; exact hge), fun x hx => by cases hx⟩, fun hb => by
    have h1 := heap_lt h.reg.box
    have := hfoot B hb
    omega⟩
end
end Go.Proofs.Ytgdlplkeafeblaa.Rf
