/- Bytes that are a row, as a string. -/
import Derived.Test.YtlmghmndojfjpaaSorted
import Derived.Laws.BytesString
import Derived.Laws.BytesArg
namespace Go.Proofs.Ytlmghmndojfjpaa.Keys
open Go.RowKit Go.Proofs.Ytlmghmndojfjpaa.Frm Go.Proofs.Ytlmghmndojfjpaa.Srt

/-- The string of bytes. -/
def str8 (l : List Nat) : ByteArray := ⟨(l.map fun k => UInt8.ofNat k).toArray⟩

set_option maxRecDepth 100000 in
theorem run_string_row {w : World} {base : Nat} {v : Value} {l : List Nat} {src dst : TypeId} (hs : Try.prog.underlying src = some (.slice 5)) (hd : Try.prog.underlying dst = some .string)
    (h : w.ownsRow base 5 1 v l.length (l.map enc8)) : (convert src dst v).run Try.prog w = .ok (.string (str8 l)) w := by
  rcases h.2 with ⟨rfl, h0⟩ | ⟨g, cap, cur, rfl, hb, hh, h1, h2, h3, h4⟩
  · have : l = [] := List.length_eq_zero_iff.1 h0
    subst this
    rw [run_convert_bytes_string w src dst 5 none 0 0 hs Try.underlying5 hd]
    rfl
  · obtain ⟨hA, _, _, _⟩ := arr_of_row h
    have hl : (loadCells ⟨g, 0, none⟩ l.length).run Try.prog w = .ok ((l.map fun k : Nat => (k : Int)).map (Value.int .u8)).toArray w := by
      have := run_loadCells_list (P := Try.prog) (w := w) ⟨g, 0, none⟩ ((l.map fun k : Nat => (k : Int)).map (Value.int .u8)) (fun j v hj => by
        have hjl : j < l.length := by
          rcases Nat.lt_or_ge j l.length with h' | h'
          · exact h'
          · rw [List.getElem?_eq_none (by simpa using h')] at hj
            cases hj
        have hc := hA.cell hjl
        have ha : (⟨g, 0, none⟩ : Addr).add j = ⟨g, j, none⟩ := by
          unfold Addr.add
          split
          · subst_vars; rfl
          · simp
        rw [ha, hc]
        simp [List.getElem?_eq_getElem hjl] at hj
        subst hj
        simp [at8, hjl])
      simpa using this
    rw [run_convert_bytes_string w src dst 5 _ _ _ hs Try.underlying5 hd, run_bytesToString w _ _ _ _ hl, foldl_push_bytes]
    have e : (ByteArray.empty.data ++ ((l.map fun k : Nat => (k : Int)).map fun n => UInt8.ofNat n.toNat).toArray) = (l.map fun k => UInt8.ofNat k).toArray := by
      rw [List.map_map]
      exact Array.empty_append
    rw [e]
    rfl
end Go.Proofs.Ytlmghmndojfjpaa.Keys
