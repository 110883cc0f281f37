/- Arguments: lines with their sizes; registers that came in. -/
import Derived.Test.YtgdlplkeafeblaaArgs2
import Derived.Test.YtgdlplkeafeblaaRegs0
import Derived.Lib.SmallJoins
import Derived.SizedLaws
namespace Go.Proofs.Ytgdlplkeafeblaa.Arg
open Go.RowKit Go.ChangeShapes Go.WideShapes Go.ChangeAt Go.Proofs.Ytgdlplkeafeblaa.Frm Go.Proofs.Ytgdlplkeafeblaa.Lns Go.Proofs.Ytgdlplkeafeblaa.Rg
set_option linter.unusedVariables false
set_option linter.unusedSimpArgs false

theorem weights_strs {H : Type} {e : TypeId} (L : List ByteArray) {s : ByteArray} (hs : s ∈ L) : s.size ∈ DataW.weightsAll (H := H) Try.prog e (strs L) := by
  induction L with
  | nil => cases hs
  | cons a l ih =>
    show s.size ∈ (DataW.weights Try.prog e (.lit (.string a.data.toList)) ++ DataW.weightsAll Try.prog e (strs l))
    rw [List.mem_append]
    rcases List.mem_cons.1 hs with rfl | h
    · left; simp [DataW.weights]
    · right; exact ih h

theorem lines_data {H : Type} {enc : TypeId × Value → H} {W : World} {base : Nat} {held : Bool} {t : TypeId} {A : Option Addr} {n c : Nat} {x : DataW H × List MemPlace} {fuel : Nat}
    (ht : Try.prog.underlying t = some (.slice 9)) (hf : DataW.trod enc Try.prog W base (fun _ => true) held fuel t [.slice A n c] = some x) : ∃ L, Lines W A n c L ∧ ∀ s ∈ L, s.size ∈ x.1.weights Try.prog t := by
  rcases open_strings ht Try.underlying9 (by kernel_rfl) hf with ⟨hcs, _⟩ | ⟨a, l, cp, ss, hcs, _, hl, hm, hlen, hx, hcell, hsz⟩
  · simp at hcs
    obtain ⟨rfl, rfl, rfl⟩ := hcs
    exact ⟨[], ⟨rfl, Nat.le_refl _, by unfold maxLen; omega, fun _ => rfl, .inl rfl⟩, fun s hs => by cases hs⟩
  · simp at hcs
    obtain ⟨rfl, rfl, rfl⟩ := hcs
    simp only [if_true] at hlen
    refine ⟨ss.take n, ⟨by rw [List.length_take]; omega, hl, hm, (by intro e; cases e), ?_⟩, fun s hs => ?_⟩
    · rcases Nat.eq_zero_or_pos n with h0 | h0
      · exact .inl h0
      · right
        obtain ⟨b, off, spot⟩ := a
        obtain ⟨rfl, hb⟩ := spotless (hcell 0 (by omega))
        refine ⟨b, off, rfl, hb, fun i hi => ?_⟩
        have := hcell i (by omega)
        rw [add_plain] at this
        rw [this]
        simp [lat, List.getD_eq_getElem?_getD, List.getElem?_take, hi]
    · subst hx
      simp only [DataW.weights, ht]
      exact List.mem_cons_of_mem _ (List.mem_append_left _ (weights_strs _ hs))

/-- Strings that came in are none longer than this. -/
def Fit (L : List ByteArray) : Prop := ∀ s ∈ L, s.size ≤ reachBytes
theorem fit_size {L : List ByteArray} (h : Fit L) : sizeL L ≤ L.length * 140737488355328 := by
  induction L with
  | nil => simp [sizeL]
  | cons a l ih =>
    have h1 := h a (by simp)
    have h2 := ih (fun s hs => h s (by simp [hs]))
    have h3 := reachBytes_lt
    have h4 : (2 : Nat) ^ 47 = 140737488355328 := by decide
    rw [h4] at h3
    rw [sizeL_cons, List.length_cons]
    omega

theorem reg_data {H : Type} {enc : TypeId × Value → H} {W : World} {base b0 : Nat} {held : Bool} {r : Reach} {v : Value} {d : DataW H} {p : List MemPlace}
    (hv : Value.okWide Try.prog W r b0 24 v) (h : DataW.Trod enc Try.prog W base (fun _ => true) held 24 v d p) :
    ∃ (k : Int) (A : Option Addr) (n c : Nat) (L : List ByteArray), v = .agg #[.int .i64 k, .slice A n c] ∧ Lines W A n c L ∧ (Lit.int .i64 k).wf = true ∧ ∀ s ∈ L, s.size ∈ d.weights Try.prog 24 := by
  obtain ⟨c0, c1, y0, y1, m, rfl, rfl, rfl, hy0, hy1⟩ := Joins.open_agg2 Try.underlying24 (by kernel_rfl) (by kernel_rfl) hv h
  obtain ⟨k, hk, _, hw⟩ := DataW.trod_int Try.underlying3 hy0
  simp at hk
  subst hk
  have hc1 : ∃ A n c, c1 = .slice A n c := by
    rcases DataW.trod_slice Try.underlying22 hy1 with ⟨h0, _⟩ | ⟨a, len, cap, elems, rest, n, _, h0, _⟩
    · simp at h0; exact ⟨_, _, _, h0⟩
    · simp at h0; exact ⟨_, _, _, h0⟩
  obtain ⟨A, n, c, rfl⟩ := hc1
  obtain ⟨L, hL, hs⟩ := lines_data Try.underlying22 hy1
  refine ⟨k, A, n, c, L, rfl, hL, hw, fun s h => ?_⟩
  have h1 := hs s h
  simp only [DataW.weights, Try.underlying24]
  simp [DataW.weightsEach]
  right; exact h1
end Go.Proofs.Ytgdlplkeafeblaa.Arg
