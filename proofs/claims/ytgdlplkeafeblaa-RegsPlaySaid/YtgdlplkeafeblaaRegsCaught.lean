/- The program's registers: what Yank and Cut hand to set. -/
import Derived.Test.YtgdlplkeafeblaaRegsBase
namespace Go.Proofs.Ytgdlplkeafeblaa.Rg
open Go.RowKit Go.Proofs.Ytgdlplkeafeblaa.MapRaw Go.Proofs.Ytgdlplkeafeblaa.Frm Go.Proofs.Ytgdlplkeafeblaa.Lns
set_option linter.unusedVariables false
set_option linter.unusedSimpArgs false
attribute [local go_sem ↓] Go.wp_at_zero Go.wp_at_succ

/-- What a closure of Yank or of Cut has caught: the register, the file. -/
structure Caught (w : World) (B p q : Nat) (r : Reg) : Prop where
  reg : ∃ A n c, w.heap[p]? = some (.cells #[.int .i64 r.1, .slice A n c] 24 (0, 0)) ∧ Lines w A n c r.2
  file : w.heap[q]? = some (.cells #[.pointer (some ⟨B, 0, none⟩)] 32 (0, 0))

theorem Caught.only {S : Nat → Prop} {w w' : World} {B p q : Nat} {r : Reg} (h : Caught w B p q r) (ho : Only S w w') (hS : ∀ b, b < w.heap.size → S b → Bare w b) (hp : ¬ S p) (hq : ¬ S q) : Caught w' B p q r := by
  obtain ⟨A, n, c, h1, h2⟩ := h.reg
  exact ⟨⟨A, n, c, (ho.block p (heap_lt h1) hp).trans h1, h2.only ho hS⟩, (ho.block q (heap_lt h.file) hq).trans h.file⟩
theorem Caught.no {w w' : World} {B p q : Nat} {r : Reg} (h : Caught w B p q r) (ho : Only No w w') : Caught w' B p q r := h.only ho (fun _ _ h => h.elim) (fun h => h) (fun h => h)
theorem Caught.ne {w : World} {B M p q : Nat} {f : Nat → Option Reg} {r : Reg} (h : Caught w B p q r) (hA : At w B M f) : p ≠ M ∧ q ≠ M := by
  obtain ⟨g, hg, _⟩ := hA.map
  obtain ⟨es, clock, h2⟩ := hg.is_map
  obtain ⟨A, n, c, h1, _⟩ := h.reg
  refine ⟨fun e => ?_, fun e => ?_⟩
  · subst e; rw [h1] at h2; cases h2
  · subst e; rw [h.file] at h2; cases h2
/-- Behind a store into the map it is as it was. -/
theorem Caught.map {w w' : World} {B M p q : Nat} {f : Nat → Option Reg} {r : Reg} (h : Caught w B p q r) (hA : At w B M f) (ho : Only (fun b => b = M) w w') : Caught w' B p q r :=
  h.only ho (fun b _ e => by subst e; exact hA.bare) (h.ne hA).1 (h.ne hA).2

set_option maxHeartbeats 4000000 in
set_option maxRecDepth 100000 in
theorem yank1_calls (B M p q : Nat) (f : Nat → Option Reg) (r : Reg) (w : World) (h : At w B M f) (hc : Caught w B p q r) (hn : r.2.length ≤ 1099511627776) :
    Calls Try.prog 34 #[.pointer (some ⟨p, 0, none⟩), .pointer (some ⟨q, 0, none⟩)] w fun e w' => e = .returned (.tuple #[]) ∧ At w' B M (updR f 48 (some r)) ∧ Only (fun b => b = M) w w' := by
  obtain ⟨A, n, c, hp, hl⟩ := hc.reg
  have hq := hc.file
  have hB := h.box
  obtain ⟨hpM, hqM⟩ := hc.ne h
  have hBM := h.ne
  have hpl := heap_lt hp
  have hql := heap_lt hq
  have hBl := heap_lt hB
  obtain ⟨f0, f1, f2, f3⟩ := reg_cells hp
  have f4 := cell_of_one hq
  have f5 := cell_of_one hB
  have HD := Lib.hid (show IsReg w.drew (.agg #[.int .i64 r.1, .slice A n c]) r from ⟨A, n, c, rfl, hl.only ((Only.refl No w).drew) (fun _ _ h => h.elim)⟩)
  have HA := Lib.hid h
  clear hc hp hl h hq hB
  go_enter Try.func34, Try.ntmps34
  go_wp2_with fail
  go_region_held3 (fun w' => w'.cell? ⟨p, 0, none⟩ = some (.int .i64 r.1) ∧ w'.cell? ⟨p, 1, none⟩ = some (.slice A n c) ∧ w'.cell? ⟨q, 0, none⟩ = some (.pointer (some ⟨B, 0, none⟩)) ∧ w'.cell? ⟨B, 0, none⟩ = some (.map (some M))) (first | go_keep | exact ⟨by assumption, by assumption, by assumption, by assumption⟩)
    (first | (go_at_call 33; refine (clone_calls _ r _ HD.out hn).mono ?_; rintro e w1 ⟨u, rfl, hu, hO⟩; have hO1 := (Only.refl No w).drew.trans' hO; obtain ⟨w3, hrun, hA3, hO3⟩ := (HA.out.no hO1).store (show 48 < 256 by omega) hu; rw [show ((48 : Nat) : Int) = 48 from rfl] at hrun; obtain ⟨A2, n2, c2, rfl, hl2⟩ := hu; have k0 := (cell_block (hO1.block p hpl (fun h => h)) 0).trans f0; have k1 := (cell_block (hO1.block p hpl (fun h => h)) 1).trans f1; have k2 := (cell_block (hO1.block q hql (fun h => h)) 0).trans f4; have k3 := (cell_block (hO1.block B hBl (fun h => h)) 0).trans f5; have hsz := hO1.size; have m0 := (cell_block (hO3.block p (by omega) hpM) 0).trans k0; have m1 := (cell_block (hO3.block p (by omega) hpM) 1).trans k1; have m2 := (cell_block (hO3.block q (by omega) hqM) 0).trans k2; have m3 := (cell_block (hO3.block B (by omega) hBM) 0).trans k3; have hQ := Lib.hid (And.intro hA3 ((hO1.mono (S' := fun b => b = M) (fun _ _ h => h.elim)).trans' hO3)); clear hA3 hO3 hO1 hO hl2))
  go_wp2
  go_end0
  exact ⟨rfl, hQ.out.1, hQ.out.2⟩
end Go.Proofs.Ytgdlplkeafeblaa.Rg
