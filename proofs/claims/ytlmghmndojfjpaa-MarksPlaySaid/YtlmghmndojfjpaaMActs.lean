/- Arguments: a script of marks' acts. -/
import Derived.Test.YtlmghmndojfjpaaArgs
import Derived.Deep.Slices
import Derived.Lib.SmallJoins
import Derived.OpenShut
namespace Go.Proofs.Ytlmghmndojfjpaa.Arg
open Go.RowKit Go.ChangeShapes Go.WideShapes Go.ChangeAt Go.Proofs.Ytlmghmndojfjpaa.Frm
set_option linter.unusedVariables false
set_option linter.unusedSimpArgs false

theorem spotless {W : World} {b off : Nat} {spot : _} {v : Value} (h : W.cell? (⟨b, off, spot⟩ : Addr) = some v) : spot = none ∧ b < W.heap.size := by
  constructor
  · cases spot with
    | none => rfl
    | some s =>
      unfold World.cell? at h
      simp only at h
      split at h <;> simp at h
  · unfold World.cell? at h
    cases hb : W.heap[b]? with
    | none => simp [hb] at h
    | some o => exact heap_lt hb
theorem cells_pos : Try.prog.cellsOf 37 = 2 := by kernel_rfl
theorem cells_act : Try.prog.cellsOf 39 = 7 := by kernel_rfl
theorem cells_u8 : Try.prog.cellsOf 5 = 1 := by kernel_rfl
theorem cells_int : Try.prog.cellsOf 3 = 1 := by kernel_rfl

/-- One act in its cells. -/
structure ActIs (w : World) (b o u nm : Nat) (l c a ol nw : Int) : Prop where
  hu : u < 256
  hn : nm < 256
  wl : (Lit.int .i64 l).wf = true
  wc : (Lit.int .i64 c).wf = true
  wa : (Lit.int .i64 a).wf = true
  wo : (Lit.int .i64 ol).wf = true
  wn : (Lit.int .i64 nw).wf = true
  c0 : w.cell? ⟨b, o, none⟩ = some (.int .u8 (u : Int))
  c1 : w.cell? ⟨b, o + 1, none⟩ = some (.int .u8 (nm : Int))
  c2 : w.cell? ⟨b, o + 2, none⟩ = some (.int .i64 l)
  c3 : w.cell? ⟨b, o + 3, none⟩ = some (.int .i64 c)
  c4 : w.cell? ⟨b, o + 4, none⟩ = some (.int .i64 a)
  c5 : w.cell? ⟨b, o + 5, none⟩ = some (.int .i64 ol)
  c6 : w.cell? ⟨b, o + 6, none⟩ = some (.int .i64 nw)

theorem act_data {H : Type} {enc : TypeId × Value → H} {W : World} {base : Nat} {held : Bool} {cs : List Value} {x : DataW H × List MemPlace} {fuel : Nat}
    (h : DataW.trod enc Try.prog W base (fun _ => true) held fuel 39 cs = some x) :
    ∃ (u nm : Nat) (l c a ol nw : Int), cs = [.int .u8 (u : Int), .int .u8 (nm : Int), .int .i64 l, .int .i64 c, .int .i64 a, .int .i64 ol, .int .i64 nw] ∧ u < 256 ∧ nm < 256 ∧ (Lit.int .i64 l).wf = true ∧ (Lit.int .i64 c).wf = true ∧ (Lit.int .i64 a).wf = true ∧ (Lit.int .i64 ol).wf = true ∧ (Lit.int .i64 nw).wf = true := by
  obtain ⟨xs, m, _, rfl, hl, hlen, hf⟩ := DataW.trod_struct Try.underlying39 h
  rw [cells_act] at hl
  match cs, hl with
  | [c0, c1, c2, c3, c4, c5, c6], _ =>
  match xs, hlen with
  | [y0, y1, y2, y3, y4, y5], _ =>
    have g0 : DataW.trod enc Try.prog W base (fun _ => true) held m 5 (([c0, c1, c2, c3, c4, c5, c6].drop 0).take (Try.prog.cellsOf 5)) = some y0 := by simpa using hf 0 _ rfl
    have g1 : DataW.trod enc Try.prog W base (fun _ => true) held m 5 (([c0, c1, c2, c3, c4, c5, c6].drop 1).take (Try.prog.cellsOf 5)) = some y1 := by simpa using hf 1 _ rfl
    have g2 : DataW.trod enc Try.prog W base (fun _ => true) held m 37 (([c0, c1, c2, c3, c4, c5, c6].drop 2).take (Try.prog.cellsOf 37)) = some y2 := by simpa using hf 2 _ rfl
    have g3 : DataW.trod enc Try.prog W base (fun _ => true) held m 3 (([c0, c1, c2, c3, c4, c5, c6].drop 4).take (Try.prog.cellsOf 3)) = some y3 := by simpa using hf 3 _ rfl
    have g4 : DataW.trod enc Try.prog W base (fun _ => true) held m 3 (([c0, c1, c2, c3, c4, c5, c6].drop 5).take (Try.prog.cellsOf 3)) = some y4 := by simpa using hf 4 _ rfl
    have g5 : DataW.trod enc Try.prog W base (fun _ => true) held m 3 (([c0, c1, c2, c3, c4, c5, c6].drop 6).take (Try.prog.cellsOf 3)) = some y5 := by simpa using hf 5 _ rfl
    simp only [cells_u8, cells_int, cells_pos, List.drop, List.take] at g0 g1 g2 g3 g4 g5
    obtain ⟨a0, e0, _, w0⟩ := DataW.trod_int Try.underlying5 g0
    obtain ⟨a1, e1, _, w1⟩ := DataW.trod_int Try.underlying5 g1
    obtain ⟨z0, z1, m2, hy2, _, f0, f1⟩ := trod_struct2 Try.underlying37 g2
    simp only [cells_int, List.drop, List.take] at f0 f1
    obtain ⟨l, e2, _, w2⟩ := DataW.trod_int Try.underlying3 f0
    obtain ⟨c, e3, _, w3⟩ := DataW.trod_int Try.underlying3 f1
    obtain ⟨a, e4, _, w4⟩ := DataW.trod_int Try.underlying3 g3
    obtain ⟨ol, e5, _, w5⟩ := DataW.trod_int Try.underlying3 g4
    obtain ⟨nw, e6, _, w6⟩ := DataW.trod_int Try.underlying3 g5
    simp at e0 e1 e2 e3 e4 e5 e6
    subst e0 e1 e2 e3 e4 e5 e6
    have b0 := bounds_u8 w0
    have b1 := bounds_u8 w1
    refine ⟨a0.toNat, a1.toNat, l, c, a, ol, nw, ?_, by omega, by omega, w2, w3, w4, w5, w6⟩
    rw [Int.toNat_of_nonneg b0.1, Int.toNat_of_nonneg b1.1]

theorem acts_data {H : Type} {enc : TypeId × Value → H} {W : World} {base : Nat} {held : Bool} {A : Option Addr} {n c : Nat} {d : DataW H} {p : List MemPlace}
    (h : DataW.Trod enc Try.prog W base (fun _ => true) held 28 (.slice A n c) d p) :
    n ≤ c ∧ c ≤ maxLen ∧ (n = 0 ∨ ∃ b o, A = some ⟨b, o, none⟩ ∧ b < W.heap.size ∧ ∀ j, j < n → ∃ u nm l cc a ol nw, ActIs W b (o + j * 7) u nm l cc a ol nw) := by
  obtain ⟨fuel, hf⟩ := h
  have hf : DataW.trod enc Try.prog W base (fun _ => true) held fuel 28 [.slice A n c] = some (d, p) := hf
  rcases Go.Deep.open_slice Try.underlying28 hf with ⟨hcs, _⟩ | ⟨a, len, cap, m, q, D, Pl, hcs, hb, hl, hm, hmm, hx, hall⟩
  · simp at hcs
    obtain ⟨rfl, rfl, rfl⟩ := hcs
    exact ⟨Nat.le_refl _, by unfold maxLen; omega, .inl rfl⟩
  · simp at hcs
    obtain ⟨rfl, rfl, rfl⟩ := hcs
    simp only [if_true] at hmm
    refine ⟨hl, hm, ?_⟩
    rcases Nat.eq_zero_or_pos n with h0 | h0
    · exact .inl h0
    right
    obtain ⟨b, off, spot⟩ := a
    have key : ∀ j, j < n → ∃ cs', W.cells? base (({ block := b, off := off, spot := spot } : Addr).add (j * 7)) 7 = some cs' ∧ ∃ (u nm : Nat) (l c a ol nw : Int), cs' = [.int .u8 (u : Int), .int .u8 (nm : Int), .int .i64 l, .int .i64 c, .int .i64 a, .int .i64 ol, .int .i64 nw] ∧ u < 256 ∧ nm < 256 ∧ (Lit.int .i64 l).wf = true ∧ (Lit.int .i64 c).wf = true ∧ (Lit.int .i64 a).wf = true ∧ (Lit.int .i64 ol).wf = true ∧ (Lit.int .i64 nw).wf = true := by
      intro j hj
      obtain ⟨cs', h1, h2⟩ := hall j (by omega)
      rw [cells_act] at h1
      exact ⟨cs', h1, act_data h2⟩
    obtain ⟨cs0, hc0, u, nm, l, cc, a, ol, nw, rfl, _⟩ := key 0 h0
    obtain ⟨_, _, hcell⟩ := World.cells?_some hc0
    have z := hcell 0 (by simp)
    simp only [Nat.zero_mul] at z
    have z2 : W.cell? (({ block := b, off := off, spot := spot } : Addr)) = some (.int .u8 ((u : Nat) : Int)) := by simpa [Addr.add] using z
    obtain ⟨rfl, hb2⟩ := spotless z2
    refine ⟨b, off, rfl, hb2, fun j hj => ?_⟩
    obtain ⟨cs', h1, u, nm, l, cc, a, ol, nw, rfl, hu, hn, w0, w1, w2, w3, w4⟩ := key j hj
    obtain ⟨_, _, hcell⟩ := World.cells?_some h1
    have g : ∀ i, i < 7 → W.cell? ⟨b, off + j * 7 + i, none⟩ = [Value.int .u8 ((u : Nat) : Int), .int .u8 ((nm : Nat) : Int), .int .i64 l, .int .i64 cc, .int .i64 a, .int .i64 ol, .int .i64 nw][i]? := by
      intro i hi
      have := hcell i (by simpa using hi)
      rw [add_plain, add_plain] at this
      exact this
    exact ⟨u, nm, l, cc, a, ol, nw, hu, hn, w0, w1, w2, w3, w4, g 0 (by omega), g 1 (by omega), g 2 (by omega), g 3 (by omega), g 4 (by omega), g 5 (by omega), g 6 (by omega)⟩
end Go.Proofs.Ytlmghmndojfjpaa.Arg
