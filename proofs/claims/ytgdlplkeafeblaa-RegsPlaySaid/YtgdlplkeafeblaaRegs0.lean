/- Registers: their values; clone, Size, and comparing them. -/
import Derived.Test.YtgdlplkeafeblaaAppend
import Derived.Deep.RegionHeld3
import Derived.Deep.DrawnRows
namespace Go.Proofs.Ytgdlplkeafeblaa.Rg
open Go.RowKit Go.Proofs.Ytgdlplkeafeblaa.MapRaw Go.Proofs.Ytgdlplkeafeblaa.Frm Go.Proofs.Ytgdlplkeafeblaa.Lns
set_option linter.unusedVariables false
set_option linter.unusedSimpArgs false
attribute [local go_sem ↓] Go.wp_at_zero Go.wp_at_succ

theorem alloc_at {w : World} {g : Nat} (h : w.heap.size = g) (o : Obj) : (w.alloc o).heap[g]? = some o := by subst h; exact alloc_new _ _

theorem only_two (w1 : World) (g : Nat) (u v : Value) : Only (fun b => b = g) w1 ((w1.setCell ⟨g, 0, none⟩ u).setCell ⟨g, 1, none⟩ v) := by
  have h1 := (Only.refl (fun b => b = g) w1).setCell (p := ⟨g, 0, none⟩) (.inr rfl) u
  exact h1.setCell (p := ⟨g, 1, none⟩) (.inr rfl) v

/-- A register: its kind, its lines. -/
abbrev Reg := Int × List ByteArray

/-- v is a register that is r. -/
def IsReg (w : World) (v : Value) (r : Reg) : Prop := ∃ A n c, v = .agg #[.int .i64 r.1, .slice A n c] ∧ Lines w A n c r.2

theorem IsReg.only {S : Nat → Prop} {w w' : World} {v : Value} {r : Reg} (h : IsReg w v r) (ho : Only S w w') (hS : ∀ b, b < w.heap.size → S b → Bare w b) : IsReg w' v r := by
  obtain ⟨A, n, c, rfl, hl⟩ := h
  exact ⟨A, n, c, rfl, hl.only ho hS⟩
theorem IsReg.below {w w' : World} {v : Value} {r : Reg} (h : IsReg w v r) (hb : Below w.heap.size w w') : IsReg w' v r := by
  obtain ⟨A, n, c, rfl, hl⟩ := h
  exact ⟨A, n, c, rfl, hl.below hb⟩

set_option maxHeartbeats 1000000 in
theorem size_calls (v : Value) (r : Reg) (w : World) (h : IsReg w v r) (hs : sizeL r.2 ≤ 4611686018427387904) :
    Calls Try.prog 15 #[v] w fun e w' => e = .returned (.int .i64 (sizeL r.2 : Nat)) ∧ Only No w w' := by
  obtain ⟨A, n, c, rfl, hl⟩ := h
  have H := Lib.hid hl
  clear hl
  go_enter Try.func15, Try.ntmps15
  go_wp2_with fail
  refine (sizeC_calls _ _ _ _ _ (H.out.below ((Below.refl _ w).alloc (Nat.le_refl _) _)) hs).mono ?_
  rintro e w1 ⟨rfl, rfl⟩
  go_wp2
  go_ret
  exact ⟨rfl, (Only.refl _ _).alloc _⟩

set_option maxHeartbeats 1000000 in
theorem reg_calls (v v' : Value) (r r' : Reg) (w : World) (h : IsReg w v r) (h' : IsReg w v' r') :
    Calls Try.prog 13 #[v, v'] w fun e w' => e = .returned (.bool (decide (r = r'))) ∧ Only No w w' := by
  obtain ⟨A, n, c, rfl, hl⟩ := h
  obtain ⟨A', n', c', rfl, hl'⟩ := h'
  obtain ⟨k, L⟩ := r
  obtain ⟨k', L'⟩ := r'
  have H := Lib.hid hl
  have H' := Lib.hid hl'
  clear hl hl'
  simp only
  go_enter Try.func13, Try.ntmps13
  by_cases e : k = k'
  · subst e
    go_wp2_with fail
    have hb := ((Below.refl _ w).alloc (Nat.le_refl _) (Obj.cells #[.int .i64 k, .slice A n c] 24)).alloc (by simp) (Obj.cells #[.int .i64 k, .slice A' n' c'] 24)
    refine (strings_calls _ _ _ _ _ _ _ _ _ (H.out.below hb) (H'.out.below hb)).mono ?_
    rintro e w1 ⟨rfl, hO⟩
    go_wp2
    go_ret
    exact ⟨by simp, (((Only.refl _ w).alloc _).alloc _).trans' hO⟩
  · go_wp2_with fail
    go_ret
    exact ⟨by simp [e], ((Only.refl _ w).alloc _).alloc _⟩

set_option maxHeartbeats 1000000 in
theorem clone_calls (v : Value) (r : Reg) (w : World) (h : IsReg w v r) (hn : r.2.length ≤ 1099511627776) :
    Calls Try.prog 33 #[v] w fun e w' => ∃ v', e = .returned v' ∧ IsReg w' v' r ∧ Only No w w' := by
  obtain ⟨A, n, c, rfl, hl⟩ := h
  have H := Lib.hid hl
  have hlen := hl.len
  clear hl
  go_enter Try.func33, Try.ntmps33
  go_wp2_with fail
  obtain ⟨W, hW⟩ : ∃ W, (w.alloc (Obj.cells #[.int .i64 r.1, .slice A r.2.length c] 24)).alloc (Obj.cells #[.int .i64 0, .slice none 0 0] 24) = W := ⟨_, rfl⟩
  rw [hW]
  have hs : W.heap.size = w.heap.size + 2 := by rw [← hW]; simp
  have hO : Only No w W := by rw [← hW]; exact ((Only.refl _ w).alloc _).alloc _
  have h0 : W.cell? ⟨w.heap.size, 0, none⟩ = some (.int .i64 r.1) := by rw [← hW]; clear hW hs hO; go_simp
  have h1 : W.cell? ⟨w.heap.size, 1, none⟩ = some (.slice A r.2.length c) := by rw [← hW]; clear hW hs hO h0; go_simp
  have f0 : W.heap[w.heap.size + 1]? = some (.cells #[.int .i64 0, .slice none 0 0] 24 (0, 0)) := by rw [← hW]; exact alloc_at (by simp) _
  clear hW
  have f1 : W.cell? ⟨w.heap.size + 1, 0, none⟩ = some (.int .i64 0) := by simp [World.cell?, f0]
  have f2 : W.cell? ⟨w.heap.size + 1, 1, none⟩ = some (.slice none 0 0) := by simp [World.cell?, f0]
  rw [hlen] at H
  have hA := H.out.only hO (fun _ _ h => h.elim)
  have hA : Lines W.drew A r.2.length c r.2 := hA.only ((Only.refl No W).drew) (fun _ _ h => h.elim)
  have HA := Lib.hid hA
  clear hA
  go_region_held3 (fun w' => w'.cell? ⟨w.heap.size, 0, none⟩ = some (.int .i64 r.1) ∧ w'.cell? ⟨w.heap.size, 1, none⟩ = some (.slice A r.2.length c)) (first | go_keep | exact ⟨by assumption, by assumption⟩)
    (first | (go_at_call 40; refine (clone_l A r.2.length c r.2 _ HA.out hn).mono ?_; rintro e w1 ⟨A', c', rfl, hl', hO'⟩; have k0 := (cell_block (hO'.block (w.heap.size) (by simp; omega) (fun h => h)) 0).trans h0; have k1 := (cell_block (hO'.block (w.heap.size) (by simp; omega) (fun h => h)) 1).trans h1; have k2 := (hO'.block (w.heap.size + 1) (by simp; omega) (fun h => h)).trans f0; have k3 : w1.cell? ⟨w.heap.size + 1, 0, none⟩ = some (.int .i64 0) := (by simp [World.cell?, k2]); have k4 : w1.cell? ⟨w.heap.size + 1, 1, none⟩ = some (.slice none 0 0) := (by simp [World.cell?, k2]); have k5 : w1.frozen? ⟨w.heap.size + 1, 0, none⟩ = false := (by simp [World.frozen?, k2]); have k6 : w1.frozen? ⟨w.heap.size + 1, 1, none⟩ = false := (by simp [World.frozen?, k2])))
  go_wp2
  have hbare : Bare w1 (w.heap.size + 1) := bare_cells k2 (fun o s => by rcases o with _ | _ | o <;> simp)
  have hOf : Only (fun b => b = w.heap.size + 1) w1 ((w1.setCell ⟨w.heap.size + 1, 0, none⟩ (.int .i64 r.1)).setCell ⟨w.heap.size + 1, 1, none⟩ (.slice A' r.2.length c')) := only_two w1 _ _ _
  have hlf := hl'.only hOf (fun b _ e => by subst e; exact hbare)
  have hfin : Only No w ((w1.setCell ⟨w.heap.size + 1, 0, none⟩ (.int .i64 r.1)).setCell ⟨w.heap.size + 1, 1, none⟩ (.slice A' r.2.length c')) := (hO.trans' (((Only.refl No W).drew).trans' hO')).trans hOf (fun k hk e => by omega)
  have e0 : ((w1.setCell ⟨w.heap.size + 1, 0, none⟩ (.int .i64 r.1)).setCell ⟨w.heap.size + 1, 1, none⟩ (.slice A' r.2.length c')).cell? ⟨w.heap.size + 1, 0, none⟩ = some (.int .i64 r.1) := by go_simp
  have e1 : ((w1.setCell ⟨w.heap.size + 1, 0, none⟩ (.int .i64 r.1)).setCell ⟨w.heap.size + 1, 1, none⟩ (.slice A' r.2.length c')).cell? ⟨w.heap.size + 1, 1, none⟩ = some (.slice A' r.2.length c') := by go_simp
  exact bodyPost_ret (v := .agg #[.int .i64 r.1, .slice A' r.2.length c']) (by simp [results, Try.results33, go_sem, e0, e1]) rfl ⟨_, rfl, ⟨A', r.2.length, c', rfl, hlf⟩, hfin⟩
end Go.Proofs.Ytgdlplkeafeblaa.Rg
