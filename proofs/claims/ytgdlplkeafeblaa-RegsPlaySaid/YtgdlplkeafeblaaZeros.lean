/- string(make([]byte, k)): the string of k zero bytes; no condition. -/
import Derived.Test.YtgdlplkeafeblaaRegs0
import Derived.Deep.DrawnRows
import Derived.Laws.BytesString
import Derived.Laws.BytesArg
import Derived.Deep.OwnRows
namespace Go.Proofs.Ytgdlplkeafeblaa.Zer
open Go.RowKit Go.Proofs.Ytgdlplkeafeblaa.MapRaw Go.Proofs.Ytgdlplkeafeblaa.Frm
set_option linter.unusedVariables false
set_option linter.unusedSimpArgs false

/-- The string of bytes. -/
def ofInts (ns : List Int) : ByteArray := ns.foldl (fun r n => r.push (UInt8.ofNat n.toNat)) ByteArray.empty
theorem ofInts_size (ns : List Int) : (ofInts ns).size = ns.length := by
  unfold ofInts
  rw [foldl_push_bytes]
  have : ∀ (l : List UInt8), (⟨ByteArray.empty.data ++ l.toArray⟩ : ByteArray).size = l.length := fun l => by
    show (ByteArray.empty.data ++ l.toArray).size = l.length
    rw [Array.size_append]
    simp [ByteArray.empty, ByteArray.emptyWithCapacity]
    first | done | rfl
  rw [this, List.length_map]
theorem infoByte : (Try.prog.info? 5).map (fun i => (i.zero, i.size, i.bytes)) = some (some (.int .u8 0), 1, 1) := by kernel_rfl
theorem made_eq (k : Nat) : madeCells #[.int .u8 0] k = ((List.replicate k (0 : Int)).map (Value.int .u8)).toArray := by
  unfold madeCells
  apply Array.ext
  · simp
  · intro i h1 h2
    simp [Nat.mod_one]
theorem add_any (g o k : Nat) : (⟨g, o, none⟩ : Addr).add k = ⟨g, o + k, none⟩ := by
  unfold Addr.add
  split
  · subst_vars; rfl
  · rfl
/-- The conversion, wherever the row lies. -/
theorem run_zeros_at {w : World} {g k : Nat} {t : TypeId} {fr : Nat × Nat} (h : w.heap[g]? = some (.cells (madeCells #[.int .u8 0] k) t fr)) : (convert 34 9 (.slice (some ⟨g, 0, none⟩) k k)).run Try.prog w = .ok (.string (ofInts (List.replicate k 0))) w := by
  have hl := run_loadCells_list (P := Try.prog) (w := w) ⟨g, 0, none⟩ ((List.replicate k (0 : Int)).map (Value.int .u8)) (fun j v hj => by
    rw [add_any, Nat.zero_add]
    simp only [World.cell?, h, made_eq, Option.isSome_none, Bool.false_eq_true, if_false]
    rw [List.getElem?_toArray]; exact hj)
  rw [List.length_map, List.length_replicate] at hl
  rw [run_convert_bytes_string _ 34 9 5 _ _ _ Try.underlying34 Try.underlying5 Try.underlying9, run_bytesToString _ _ k k (List.replicate k 0) hl]
  rfl
theorem run_make (k : Nat) (hk : k ≤ 1099511627776) (w : World) : (Instr.makeSlice 34 (.int .i64 (k : Int)) (.int .i64 (k : Int))).run Try.prog w = .ok (.slice (some ⟨w.heap.size, 0, none⟩) k k) (w.alloc (.cells (madeCells #[.int .u8 0] k) 5)) :=
  run_make_row' 34 5 (.int .u8 0) 1 Try.underlying34 infoByte rfl .i64 .i64 k (by omega) (by omega) w
end Go.Proofs.Ytgdlplkeafeblaa.Zer
