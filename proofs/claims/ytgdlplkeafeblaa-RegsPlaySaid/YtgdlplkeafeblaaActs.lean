/- Arguments: a script of acts, each with a register. -/
import Derived.Test.YtgdlplkeafeblaaArgs3
import Derived.Deep.Slices
import Derived.OpenShut
namespace Go.Proofs.Ytgdlplkeafeblaa.Arg
open Go.RowKit Go.ChangeShapes Go.WideShapes Go.ChangeAt Go.Proofs.Ytgdlplkeafeblaa.Frm Go.Proofs.Ytgdlplkeafeblaa.Lns Go.Proofs.Ytgdlplkeafeblaa.Rg
set_option linter.unusedVariables false
set_option linter.unusedSimpArgs false

theorem weights_all {H : Type} {e : TypeId} {l : List (DataW H)} {d : DataW H} (hd : d ∈ l) {n : Nat} (hn : n ∈ d.weights Try.prog e) : n ∈ DataW.weightsAll Try.prog e l := by
  induction l with
  | nil => cases hd
  | cons a l ih =>
    show n ∈ a.weights Try.prog e ++ DataW.weightsAll Try.prog e l
    rw [List.mem_append]
    rcases List.mem_cons.1 hd with rfl | h
    · exact .inl hn
    · exact .inr (ih h)

theorem cells_reg : Try.prog.cellsOf 24 = 2 := by kernel_rfl
theorem cells_act : Try.prog.cellsOf 47 = 5 := by kernel_rfl
theorem cells_u8 : Try.prog.cellsOf 5 = 1 := by kernel_rfl
theorem cells_int : Try.prog.cellsOf 3 = 1 := by kernel_rfl
theorem cells_bool : Try.prog.cellsOf 4 = 1 := by kernel_rfl
theorem cells_lines : Try.prog.cellsOf 22 = 1 := by kernel_rfl

/-- One act in its cells. -/
structure ActIs (w : World) (b o u nm : Nat) (k : Int) (A : Option Addr) (n c : Nat) (L : List ByteArray) (bg : Bool) : Prop where
  hu : u < 256
  hn : nm < 256
  wf : (Lit.int .i64 k).wf = true
  c0 : w.cell? ⟨b, o, none⟩ = some (.int .u8 (u : Int))
  c1 : w.cell? ⟨b, o + 1, none⟩ = some (.int .u8 (nm : Int))
  c2 : w.cell? ⟨b, o + 2, none⟩ = some (.int .i64 k)
  c3 : w.cell? ⟨b, o + 3, none⟩ = some (.slice A n c)
  c4 : w.cell? ⟨b, o + 4, none⟩ = some (.bool bg)
  lines : Lines w A n c L
  fit : Fit L

theorem act_data {H : Type} {enc : TypeId × Value → H} {W : World} {base : Nat} {held : Bool} {cs : List Value} {x : DataW H × List MemPlace} {fuel : Nat}
    (h : DataW.trod enc Try.prog W base (fun _ => true) held fuel 47 cs = some x) (hw : ∀ s ∈ x.1.weights Try.prog 47, s ≤ reachBytes) :
    ∃ (u nm : Nat) (k : Int) (A : Option Addr) (n c : Nat) (L : List ByteArray) (bg : Bool), cs = [.int .u8 (u : Int), .int .u8 (nm : Int), .int .i64 k, .slice A n c, .bool bg] ∧ u < 256 ∧ nm < 256 ∧ (Lit.int .i64 k).wf = true ∧ Lines W A n c L ∧ Fit L := by
  obtain ⟨y0, y1, y2, y3, m, rfl, hl, h0, h1, h2, h3⟩ := Go.Joins.trod_struct4 Try.underlying47 h
  rw [cells_act] at hl
  match cs, hl with
  | [c0, c1, c2, c3, c4], _ =>
    simp only [cells_u8, cells_reg, cells_bool, List.drop, List.take] at h0 h1 h2 h3
    obtain ⟨a0, e0, _, w0⟩ := DataW.trod_int Try.underlying5 h0
    obtain ⟨a1, e1, _, w1⟩ := DataW.trod_int Try.underlying5 h1
    obtain ⟨bg, e4, _⟩ := DataW.trod_bool Try.underlying4 h3
    obtain ⟨z0, z1, m2, hy2, _, g0, g1⟩ := trod_struct2 Try.underlying24 h2
    simp only [cells_int, cells_lines, List.drop, List.take] at g0 g1
    obtain ⟨k, e2, _, w2⟩ := DataW.trod_int Try.underlying3 g0
    obtain ⟨A, n, c, e3⟩ := Go.Joins.slice_form Try.underlying22 g1
    simp at e0 e1 e2 e3 e4
    subst e0 e1 e2 e3 e4
    obtain ⟨L, hL, hs⟩ := lines_data Try.underlying22 g1
    have b0 := bounds_u8 w0
    have b1 := bounds_u8 w1
    refine ⟨a0.toNat, a1.toNat, k, A, n, c, L, bg, ?_, by omega, by omega, w2, hL, fun s hsL => hw _ ?_⟩
    · rw [Int.toNat_of_nonneg b0.1, Int.toNat_of_nonneg b1.1]
    · have q1 := hs s hsL
      simp only [DataW.weights, Try.underlying47]
      simp [DataW.weightsEach]
      right; right; left
      rw [hy2]
      simp only [DataW.weights, Try.underlying24]
      simp [DataW.weightsEach]
      right; exact q1

theorem acts_data {H : Type} {enc : TypeId × Value → H} {W : World} {base : Nat} {held : Bool} {A : Option Addr} {n c : Nat} {d : DataW H} {p : List MemPlace}
    (h : DataW.Trod enc Try.prog W base (fun _ => true) held 41 (.slice A n c) d p) (hw : ∀ s ∈ d.weights Try.prog 41, s ≤ reachBytes) :
    n ≤ c ∧ c ≤ maxLen ∧ (n = 0 ∨ ∃ b o, A = some ⟨b, o, none⟩ ∧ b < W.heap.size ∧ ∀ j, j < n → ∃ u nm k A' n' c' L bg, ActIs W b (o + j * 5) u nm k A' n' c' L bg) := by
  obtain ⟨fuel, hf⟩ := h
  have hf : DataW.trod enc Try.prog W base (fun _ => true) held fuel 41 [.slice A n c] = some (d, p) := hf
  rcases Go.Deep.open_slice Try.underlying41 hf with ⟨hcs, _⟩ | ⟨a, len, cap, m, q, D, Pl, hcs, hb, hl, hm, hmm, hx, hall⟩
  · simp at hcs
    obtain ⟨rfl, rfl, rfl⟩ := hcs
    exact ⟨Nat.le_refl _, by unfold maxLen; omega, .inl rfl⟩
  · simp at hcs
    obtain ⟨rfl, rfl, rfl⟩ := hcs
    simp only [if_true] at hmm
    refine ⟨hl, hm, ?_⟩
    rcases Nat.eq_zero_or_pos n with h0 | h0
    · exact .inl h0
    right
    obtain ⟨b, off, spot⟩ := a
    simp only [Prod.mk.injEq] at hx
    obtain ⟨hx, _⟩ := hx
    have key : ∀ j, j < n → ∃ cs', W.cells? base (({ block := b, off := off, spot := spot } : Addr).add (j * 5)) 5 = some cs' ∧ ∃ u nm k A' n' c' L bg, cs' = [.int .u8 ((u : Nat) : Int), .int .u8 ((nm : Nat) : Int), .int .i64 k, .slice A' n' c', .bool bg] ∧ u < 256 ∧ nm < 256 ∧ (Lit.int .i64 k).wf = true ∧ Lines W A' n' c' L ∧ Fit L := by
      intro j hj
      obtain ⟨cs', h1, h2⟩ := hall j (by omega)
      rw [cells_act] at h1
      refine ⟨cs', h1, act_data h2 (fun s hs => hw s ?_)⟩
      rw [hx]
      simp only [DataW.weights, Try.underlying41]
      exact List.mem_cons_of_mem _ (List.mem_append_left _ (weights_all (List.mem_map.2 ⟨j, List.mem_range.2 hj, rfl⟩) hs))
    obtain ⟨cs0, hc0, u, nm, k, A', n', c', L, bg, rfl, _⟩ := key 0 h0
    obtain ⟨_, _, hcell⟩ := World.cells?_some hc0
    have z := hcell 0 (by simp)
    simp only [Nat.zero_mul] at z
    have z2 : W.cell? (({ block := b, off := off, spot := spot } : Addr)) = some (.int .u8 ((u : Nat) : Int)) := by simpa [Addr.add] using z
    obtain ⟨rfl, hb2⟩ := spotless z2
    refine ⟨b, off, rfl, hb2, fun j hj => ?_⟩
    obtain ⟨cs', h1, u, nm, k, A', n', c', L, bg, rfl, hu, hn, hk, hL, hF⟩ := key j hj
    obtain ⟨_, _, hcell⟩ := World.cells?_some h1
    have g : ∀ i, i < 5 → W.cell? ⟨b, off + j * 5 + i, none⟩ = [Value.int .u8 ((u : Nat) : Int), .int .u8 ((nm : Nat) : Int), .int .i64 k, .slice A' n' c', .bool bg][i]? := by
      intro i hi
      have := hcell i (by simpa using hi)
      rw [add_plain, add_plain] at this
      exact this
    exact ⟨u, nm, k, A', n', c', L, bg, hu, hn, hk, g 0 (by omega), g 1 (by omega), g 2 (by omega), g 3 (by omega), g 4 (by omega), hL, hF⟩
end Go.Proofs.Ytgdlplkeafeblaa.Arg
