/- Arguments: slices of bools, of strings. -/
import Derived.Test.YtgdlplkeafeblaaLines
import Derived.Test.YtgdlplkeafeblaaArgs
import Derived.Deep.Grids
import Derived.SliceStrings
namespace Go.Proofs.Ytgdlplkeafeblaa.Arg
open Go.RowKit Go.ChangeShapes Go.WideShapes Go.ChangeAt Go.Proofs.Ytgdlplkeafeblaa.Frm Go.Proofs.Ytgdlplkeafeblaa.Lns
set_option linter.unusedVariables false
set_option linter.unusedSimpArgs false

theorem spotless {W : World} {b off : Nat} {spot : _} {v : Value} (h : W.cell? ((⟨b, off, spot⟩ : Addr).add 0) = some v) : spot = none ∧ b < W.heap.size := by
  have e : (⟨b, off, spot⟩ : Addr).add 0 = ⟨b, off, spot⟩ := by simp [Addr.add]
  rw [e] at h
  constructor
  · cases spot with
    | none => rfl
    | some s =>
      unfold World.cell? at h
      simp only at h
      split at h <;> simp at h
  · unfold World.cell? at h
    cases hb : W.heap[b]? with
    | none => simp [hb] at h
    | some o => exact heap_lt hb

/-- A slice of bools that came in. -/
structure Bools (w : World) (A : Option Addr) (n c : Nat) (z : Nat → Bool) : Prop where
  cap : n ≤ c
  max : c ≤ maxLen
  cells : n = 0 ∨ ∃ b off, A = some ⟨b, off, none⟩ ∧ b < w.heap.size ∧ ∀ i, i < n → w.cell? ⟨b, off + i, none⟩ = some (.bool (z i))

theorem bools_arg {H : Type} {enc : TypeId × Value → H} {W : World} {base : Nat} {held : Bool} {t : TypeId} {A : Option Addr} {n c : Nat} {d : DataW H} {ps : List MemPlace}
    (ht : Try.prog.underlying t = some (.slice 4)) (h : DataW.Trod enc Try.prog W base (fun _ => true) held t (.slice A n c) d ps) : ∃ z, Bools W A n c z := by
  obtain ⟨fuel, hf⟩ := h
  rcases Go.Deep.open_bools ht Try.underlying4 (by kernel_rfl) hf with ⟨hcs, _⟩ | ⟨a, l, cp, Z, hcs, _, hl, hm, _, hcell⟩
  · simp [Value.cells] at hcs
    obtain ⟨rfl, rfl, rfl⟩ := hcs
    exact ⟨fun _ => false, Nat.le_refl _, by unfold maxLen; omega, .inl rfl⟩
  · simp [Value.cells] at hcs
    obtain ⟨rfl, rfl, rfl⟩ := hcs
    refine ⟨Z, hl, hm, ?_⟩
    rcases Nat.eq_zero_or_pos n with h0 | h0
    · exact .inl h0
    · right
      obtain ⟨b, off, spot⟩ := a
      obtain ⟨rfl, hb⟩ := spotless (hcell 0 (by omega))
      refine ⟨b, off, rfl, hb, fun i hi => ?_⟩
      have := hcell i (by omega)
      rwa [add_plain] at this

theorem lines_arg {H : Type} {enc : TypeId × Value → H} {W : World} {base : Nat} {held : Bool} {t : TypeId} {A : Option Addr} {n c : Nat} {d : DataW H} {ps : List MemPlace}
    (ht : Try.prog.underlying t = some (.slice 9)) (h : DataW.Trod enc Try.prog W base (fun _ => true) held t (.slice A n c) d ps) : ∃ L, Lines W A n c L ∧ ∀ s ∈ L, s.size ≤ maxLen := by
  obtain ⟨fuel, hf⟩ := h
  rcases open_strings ht Try.underlying9 (by kernel_rfl) hf with ⟨hcs, _⟩ | ⟨a, l, cp, ss, hcs, _, hl, hm, hlen, _, hcell, hsz⟩
  · simp [Value.cells] at hcs
    obtain ⟨rfl, rfl, rfl⟩ := hcs
    exact ⟨[], ⟨rfl, Nat.le_refl _, by unfold maxLen; omega, fun _ => rfl, .inl rfl⟩, fun s hs => by cases hs⟩
  · simp [Value.cells] at hcs
    obtain ⟨rfl, rfl, rfl⟩ := hcs
    simp only [if_true] at hlen
    refine ⟨ss.take n, ⟨by rw [List.length_take]; omega, hl, hm, (by intro e; cases e), ?_⟩, fun s hs => hsz s (List.mem_of_mem_take hs)⟩
    rcases Nat.eq_zero_or_pos n with h0 | h0
    · exact .inl h0
    · right
      obtain ⟨b, off, spot⟩ := a
      obtain ⟨rfl, hb⟩ := spotless (hcell 0 (by omega))
      refine ⟨b, off, rfl, hb, fun i hi => ?_⟩
      have := hcell i (by omega)
      rw [add_plain] at this
      rw [this]
      simp [lat, List.getD_eq_getElem?_getD, List.getElem?_take, hi]
end Go.Proofs.Ytgdlplkeafeblaa.Arg
