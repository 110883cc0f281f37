/- Arguments that came in, as the walks take them: slices of bytes; and the statements' Place. -/
import Derived.Test.YtlmghmndojfjpaaProg
import Derived.Test.YtlmghmndojfjpaaFrame
import Derived.ProofKit
import Derived.OpenShut
import Derived.ChangeSlices
namespace Go.Proofs.Ytlmghmndojfjpaa.Arg
open Go.RowKit Go.ChangeShapes Go.WideShapes Go.ChangeAt Go.Proofs.Ytlmghmndojfjpaa.Frm
set_option linter.unusedVariables false
set_option linter.unusedSimpArgs false

/-- A slice of bytes that came in. -/
structure Bytes (w : World) (A : Option Addr) (n c : Nat) (z : Nat → Int) : Prop where
  cap : n ≤ c
  max : c ≤ maxLen
  bd : ∀ i, 0 ≤ z i ∧ z i ≤ 255
  cells : n = 0 ∨ ∃ b off, A = some ⟨b, off, none⟩ ∧ b < w.heap.size ∧ ∀ i, i < n → w.cell? ⟨b, off + i, none⟩ = some (.int .u8 (z i))

theorem add_plain (b off i : Nat) : (⟨b, off, none⟩ : Addr).add i = ⟨b, off + i, none⟩ := by
  unfold Addr.add
  split
  · subst_vars; rfl
  · rfl

theorem bytes_arg {H : Type} {enc : TypeId × Value → H} {W : World} {base : Nat} {held : Bool} {t : TypeId} {A : Option Addr} {n c : Nat} {d : DataW H} {ps : List MemPlace}
    (ht : Try.prog.underlying t = some (.slice 5)) (h : DataW.Trod enc Try.prog W base (fun _ => true) held t (.slice A n c) d ps) : ∃ z, Bytes W A n c z := by
  obtain ⟨fuel, hf⟩ := h
  rcases open_ints ht Try.underlying5 (by kernel_rfl) hf with ⟨hcs, _⟩ | ⟨a, l, cp, zs, hcs, _, hl, hm, hz, _, hcell, hw⟩
  · simp [Value.cells] at hcs
    obtain ⟨rfl, rfl, rfl⟩ := hcs
    exact ⟨fun _ => 0, Nat.le_refl _, by unfold maxLen; omega, fun _ => by omega, .inl rfl⟩
  · simp [Value.cells] at hcs
    obtain ⟨rfl, rfl, rfl⟩ := hcs
    simp only [if_true] at hz
    refine ⟨fun i => zs.getD i 0, hl, hm, fun i => ?_, ?_⟩
    · by_cases hi : i < zs.length
      · have e : zs.getD i 0 = zs[i] := by simp [List.getD_eq_getElem?_getD, List.getElem?_eq_getElem hi]
        simp only [e]
        exact bounds_u8 (hw _ (List.getElem_mem hi))
      · have e : zs.getD i 0 = 0 := by simp [List.getD_eq_getElem?_getD, List.getElem?_eq_none (Nat.le_of_not_lt hi)]
        simp only [e]
        omega
    · rcases Nat.eq_zero_or_pos n with h0 | h0
      · exact .inl h0
      · right
        obtain ⟨b, off, spot⟩ := a
        have h1 := hcell 0 (by omega)
        have hsp : spot = none := by
          have e : (⟨b, off, spot⟩ : Addr).add 0 = ⟨b, off, spot⟩ := by simp [Addr.add]
          rw [e] at h1
          cases spot with
          | none => rfl
          | some s =>
            unfold World.cell? at h1
            simp only at h1
            split at h1 <;> simp at h1
        subst hsp
        refine ⟨b, off, rfl, ?_, fun i hi => ?_⟩
        · rw [add_plain] at h1
          unfold World.cell? at h1
          cases hb : W.heap[b]? with
          | none => simp [hb] at h1
          | some o => exact heap_lt hb
        · have := hcell i (by omega)
          rwa [add_plain] at this
end Go.Proofs.Ytlmghmndojfjpaa.Arg
