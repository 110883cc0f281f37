/- The program's registers: Yank, Cut. -/
import Derived.Test.YtgdlplkeafeblaaRegsSet
import Derived.Test.YtgdlplkeafeblaaRegsCut1
import Derived.Test.YtgdlplkeafeblaaKeysReg
namespace Go.Proofs.Ytgdlplkeafeblaa.Rg
open Go.RowKit Go.Shelf Go.Proofs.Ytgdlplkeafeblaa.MapRaw Go.Proofs.Ytgdlplkeafeblaa.Frm Go.Proofs.Ytgdlplkeafeblaa.Lns
set_option linter.unusedVariables false
set_option linter.unusedSimpArgs false

set_option maxHeartbeats 4000000 in
set_option maxRecDepth 100000 in
theorem yank_calls (B M : Nat) (f : Nat → Option Reg) (n : Nat) (v : Value) (r : Reg) (w : World) (h : At w B M f) (hv : IsReg w v r) (hlt : n < 256) (hsz : sizeL r.2 ≤ 268435456) (hf : Bd f) :
    Calls Try.prog 21 #[.pointer (some ⟨B, 0, none⟩), .int .u8 (n : Int), v] w fun e w' => e = .returned (.int .i64 (setE f n r : Nat)) ∧ At w' B M (setF f (updR f 48 (some r)) n r) ∧ Only (fun b => b = M) w w' := by
  obtain ⟨A, m, c, rfl, hL⟩ := hv
  have HL := Lib.hid hL
  have hlen := length_le_sizeL r.2
  have hOO : ∀ o1 o2, Only No w ((w.alloc o1).alloc o2) := fun o1 o2 => ((Only.refl _ w).alloc _).alloc _
  have HA := Lib.hid h
  clear hL h
  go_enter Try.func21, Try.ntmps21
  go_wp2_with fail
  have hC : Caught ((w.alloc (Obj.cells #[.pointer (some ⟨B, 0, none⟩)] 32)).alloc (Obj.cells #[.int .i64 r.1, .slice A m c] 24)) B (w.heap.size + 1) w.heap.size r :=
    ⟨⟨A, m, c, alloc_at (by simp) _, HL.out.only (hOO _ _) (fun _ _ h => h.elim)⟩, (Below.heap_alloc _ _ _ (by simp)).trans (alloc_new w _)⟩
  have hAW := HA.out.no (hOO (Obj.cells #[.pointer (some ⟨B, 0, none⟩)] 32) (Obj.cells #[.int .i64 r.1, .slice A m c] 24))
  refine (set_calls B M f (updR f 48 (some r)) n (.agg #[.int .i64 r.1, .slice A m c]) r 34 _ (enters_of Try.func34 (by kernel_rfl) rfl) _ hAW ⟨A, m, c, rfl, HL.out.only (hOO _ _) (fun _ _ h => h.elim)⟩ hlt hsz hf (fun w1 h1 => yank1_calls B M _ _ f r w1 (hAW.no h1) (hC.no h1) (by omega))).mono ?_
  rintro e w1 ⟨rfl, hA1, hO1⟩
  have hfin := ((hOO (Obj.cells #[.pointer (some ⟨B, 0, none⟩)] 32) (Obj.cells #[.int .i64 r.1, .slice A m c] 24)).mono (S' := fun b => b = M) (fun _ _ h => h.elim)).trans' hO1
  have HQ := Lib.hid (And.intro hA1 hfin)
  clear hA1 hO1 hfin hC hAW
  go_wp2
  go_ret
  exact ⟨rfl, HQ.out.1, HQ.out.2⟩

set_option maxHeartbeats 4000000 in
set_option maxRecDepth 100000 in
theorem cut_calls (B M : Nat) (f : Nat → Option Reg) (n : Nat) (v : Value) (r : Reg) (w : World) (h : At w B M f) (hv : IsReg w v r) (hlt : n < 256) (hsz : sizeL r.2 ≤ 268435456) (hf : Bd f) :
    Calls Try.prog 18 #[.pointer (some ⟨B, 0, none⟩), .int .u8 (n : Int), v] w fun e w' => e = .returned (.int .i64 (setE f n r : Nat)) ∧ At w' B M (setF f (cutF f r) n r) ∧ Only (fun b => b = M) w w' := by
  obtain ⟨A, m, c, rfl, hL⟩ := hv
  have HL := Lib.hid hL
  have hlen := length_le_sizeL r.2
  have hOO : ∀ o1 o2, Only No w ((w.alloc o1).alloc o2) := fun o1 o2 => ((Only.refl _ w).alloc _).alloc _
  have HA := Lib.hid h
  clear hL h
  go_enter Try.func18, Try.ntmps18
  go_wp2_with fail
  have hC : Caught ((w.alloc (Obj.cells #[.pointer (some ⟨B, 0, none⟩)] 32)).alloc (Obj.cells #[.int .i64 r.1, .slice A m c] 24)) B (w.heap.size + 1) w.heap.size r :=
    ⟨⟨A, m, c, alloc_at (by simp) _, HL.out.only (hOO _ _) (fun _ _ h => h.elim)⟩, (Below.heap_alloc _ _ _ (by simp)).trans (alloc_new w _)⟩
  have hAW := HA.out.no (hOO (Obj.cells #[.pointer (some ⟨B, 0, none⟩)] 32) (Obj.cells #[.int .i64 r.1, .slice A m c] 24))
  refine (set_calls B M f (cutF f r) n (.agg #[.int .i64 r.1, .slice A m c]) r 32 _ (enters_of Try.func32 (by kernel_rfl) rfl) _ hAW ⟨A, m, c, rfl, HL.out.only (hOO _ _) (fun _ _ h => h.elim)⟩ hlt hsz hf (fun w1 h1 => cut1_calls B M _ _ f r w1 (hAW.no h1) (hC.no h1) (by omega))).mono ?_
  rintro e w1 ⟨rfl, hA1, hO1⟩
  have hfin := ((hOO (Obj.cells #[.pointer (some ⟨B, 0, none⟩)] 32) (Obj.cells #[.int .i64 r.1, .slice A m c] 24)).mono (S' := fun b => b = M) (fun _ _ h => h.elim)).trans' hO1
  have HQ := Lib.hid (And.intro hA1 hfin)
  clear hA1 hO1 hfin hC hAW
  go_wp2
  go_ret
  exact ⟨rfl, HQ.out.1, HQ.out.2⟩
end Go.Proofs.Ytgdlplkeafeblaa.Rg
