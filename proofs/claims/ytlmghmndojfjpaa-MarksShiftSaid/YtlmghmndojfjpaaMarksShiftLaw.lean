/- MarksShift: where any line is behind any change, the program and the document say alike; proved for every input, under no condition. -/
import Derived.Test.YtlmghmndojfjpaaRows
import Derived.Test.YtlmghmndojfjpaaMarksKnown
import Derived.Test.YtlmghmndojfjpaaRefShift
import Derived.WalkKit
import Derived.ProofKit
import Derived.OpenShut
import Derived.ChangeOld
import Derived.SizedLaws
namespace Go.Proofs.Ytlmghmndojfjpaa.marksShift
open Go.RowKit Go.Proofs.Ytlmghmndojfjpaa.Frm Go.Proofs.Ytlmghmndojfjpaa.Shf
set_option linter.unusedVariables false
set_option linter.unusedSimpArgs false

def rem (a n : Int) : Int := a.tmod n
theorem rem_bd (a : Int) {n : Int} (hn : 0 < n) : -n < rem a n ∧ rem a n < n := by
  unfold rem
  rcases Int.le_total 0 a with h | h
  · rw [Int.tmod_eq_emod_of_nonneg h]
    have h1 := Int.emod_nonneg a (show n ≠ 0 by omega)
    have h2 := Int.emod_lt_of_pos a hn
    omega
  · have e : a.tmod n = -((-a) % n) := by
      rw [← Int.tmod_eq_emod_of_nonneg (by omega : 0 ≤ -a), Int.neg_tmod]; omega
    rw [e]
    have h1 := Int.emod_nonneg (-a) (show n ≠ 0 by omega)
    have h2 := Int.emod_lt_of_pos (-a) hn
    omega

set_option maxHeartbeats 4000000 in
set_option maxRecDepth 100000 in
theorem law_any (a b c d : Int) (w : World) :
    Calls Try.prog 3 #[.int .i64 a, .int .i64 b, .int .i64 c, .int .i64 d] w fun e w' => e = .returned (.bool true) ∧ Below w.heap.size w w' := by
  go_enter Try.func3, Try.ntmps3
  go_wp2_with (go_at_call 8; refine (Mk.known_calls _).mono ?_; rintro e w1 ⟨rfl, hb⟩)
  have q0 := rem_bd a (n := 1073741824) (by omega)
  have q1 := rem_bd (rem a 1073741824) (n := 40) (by omega)
  unfold rem at q0 q1
  generalize (a.tmod 1073741824).tmod 40 = a2 at *
  generalize a.tmod 1073741824 = a1 at *
  generalize b.tmod 20 = b2
  generalize c.tmod 10 = c2
  generalize d.tmod 10 = d2
  have hsz := hb.size
  go_loopw [35] (fun i wr => ∃ k : Nat, k ≤ 2 ∧ i = .int .i64 k ∧ Below w.heap.size w wr ∧ Below (w1.heap.size + 1) (w1.alloc (Obj.cells #[Value.int IntKind.i64 a1, Value.int IntKind.i64 b, Value.int IntKind.i64 c, Value.int IntKind.i64 d, Value.int IntKind.i64 a2, Value.int IntKind.i64 b2, Value.int IntKind.i64 c2, Value.int IntKind.i64 d2] 23)) wr) (fun i _ => 2 - (intOf i).toNat)
  case atStart => exact ⟨0, by omega, rfl, hb.alloc hsz _, Below.refl _ _⟩
  case round =>
    obtain ⟨k, hk, rfl, hbw, hcw⟩ := hrel
    have hsz2 := hcw.size
    simp at hsz2
    by_cases h2 : k < 2
    · have k0 : wr.cell? ⟨w1.heap.size, 0, none⟩ = some (.int .i64 a1) := by rw [hcw.cell (by simp)]; go_simp
      have k1 : wr.cell? ⟨w1.heap.size, 0 + 1, none⟩ = some (.int .i64 b) := by rw [hcw.cell (by simp)]; go_simp
      have k2 : wr.cell? ⟨w1.heap.size, 0 + 2, none⟩ = some (.int .i64 c) := by rw [hcw.cell (by simp)]; go_simp
      have k3 : wr.cell? ⟨w1.heap.size, 0 + 3, none⟩ = some (.int .i64 d) := by rw [hcw.cell (by simp)]; go_simp
      have k4 : wr.cell? ⟨w1.heap.size, 4, none⟩ = some (.int .i64 a2) := by rw [hcw.cell (by simp)]; go_simp
      have k5 : wr.cell? ⟨w1.heap.size, 4 + 1, none⟩ = some (.int .i64 b2) := by rw [hcw.cell (by simp)]; go_simp
      have k6 : wr.cell? ⟨w1.heap.size, 4 + 2, none⟩ = some (.int .i64 c2) := by rw [hcw.cell (by simp)]; go_simp
      have k7 : wr.cell? ⟨w1.heap.size, 4 + 3, none⟩ = some (.int .i64 d2) := by rw [hcw.cell (by simp)]; go_simp
      rcases (show k = 0 ∨ k = 1 by omega) with rfl | rfl
      · go_wp2_with fail
        refine (shift_calls a1 b c d _ (by omega) (by omega)).mono ?_
        rintro e w2 ⟨rfl, rfl⟩
        go_wp2_with fail
        refine (ref_shift_calls a1 b c d _ (by omega) (by omega)).mono ?_
        rintro e w2 ⟨rfl, rfl⟩
        go_wp2_with fail
        go_roundw
        case rel => exact ⟨1, by omega, rfl, hbw.alloc (by omega) _, hcw.alloc (by omega) _⟩
        case measure => simp [intOf]
      · go_wp2_with fail
        refine (shift_calls a2 b2 c2 d2 _ (by omega) (by omega)).mono ?_
        rintro e w2 ⟨rfl, rfl⟩
        go_wp2_with fail
        refine (ref_shift_calls a2 b2 c2 d2 _ (by omega) (by omega)).mono ?_
        rintro e w2 ⟨rfl, rfl⟩
        go_wp2_with fail
        go_roundw
        case rel => exact ⟨2, by omega, rfl, hbw.alloc (by omega) _, hcw.alloc (by omega) _⟩
        case measure => simp [intOf]
    · have : k = 2 := by omega
      subst this
      go_wp2
      go_ret
      exact ⟨rfl, hbw⟩

theorem walk_any (a b c d : Int) (w : World) (_ : (Lit.int .i64 a).wf = true) (_ : (Lit.int .i64 b).wf = true) (_ : (Lit.int .i64 c).wf = true) (_ : (Lit.int .i64 d).wf = true) :
    Calls Try.prog 3 #[.int .i64 a, .int .i64 b, .int .i64 c, .int .i64 d] w fun e w' => e = .returned (.bool true) ∧ Below w.heap.size w w' := law_any a b c d w

open Go.ChangeShapes Go.WideShapes Go.ChangeAt
open Go.ChangeMaps (open_string shut_string)
theorem own : ownKnob Try.prog.godebug = none := by kernel_rfl
set_option maxRecDepth 100000 in
theorem lifted (os : Os) (started : os.Started) (H : Type) (enc : TypeId × Value → H) :
    ReturnsInHanded {} Try.checked os 3 .any (Rows.marksShiftSpec.pre6 enc Try.prog Try.f3 Rows.marksShiftRow.domain false) (Rows.marksShiftSpec.post enc Try.prog Try.f3 false true false false) := by
  refine returnsInHanded_of_change_sized (C := Try.checked) own started (by kernel_rfl) Try.func3
    (ChangeSpec.witness6 (enc := enc) (C := Try.checked) false ⟨#[], #[.int .i64 0, .int .i64 0, .int .i64 0, .int .i64 0], []⟩ 8 (by kernel_rfl) (by kernel_rfl) (by kernel_rfl) (by kernel_rfl)) ?_
  intro W base args ds gs before hval0 hW hcnd hsz0 _
  have hsz : (DataW.weightsEach Try.prog (Try.f3.params.toList ++ Rows.marksShiftSpec.plain.varTypes Try.prog) (ds ++ gs)).all (· ≤ reachBytes) = true := hsz0
  have hval : ∀ (j : Nat) t v, Try.f3.params[j]? = some t → args[j]? = some v → Value.okWide Try.prog W .any base t v := hval0
  have hW' := hW
  obtain ⟨p, q, hA0, hV, rfl, hfz, hnd⟩ := hW
  have hA : DataW.TrodAll enc Try.prog W 0 (fun _ => true) true Try.f3.params.toList args.toList ds p := hA0
  rw [Try.params3] at hA hval hsz
  obtain ⟨v0, vs0, d0, ds0, p0, q0, hargs, rfl, rfl, h0, r0⟩ := trodAll_cons hA
  obtain ⟨v1, vs1, d1, ds1, p1, q1, rfl, rfl, rfl, h1, r1⟩ := trodAll_cons r0
  obtain ⟨v2, vs2, d2, ds2, p2, q2, rfl, rfl, rfl, h2, r2⟩ := trodAll_cons r1
  obtain ⟨v3, vs3, d3, ds3, p3, q3, rfl, rfl, rfl, h3, r3⟩ := trodAll_cons r2
  obtain ⟨rfl, rfl, rfl⟩ := trodAll_nil r3
  obtain rfl : args = #[v0, v1, v2, v3] := by cases args; simp_all
  obtain ⟨rfl, rfl⟩ := trodVars_none hV
  obtain ⟨a0, rfl, rfl, rfl, w0⟩ := open_int Try.underlying3 (hval 0 3 v0 rfl rfl) h0
  obtain ⟨a1, rfl, rfl, rfl, w1⟩ := open_int Try.underlying3 (hval 1 3 v1 rfl rfl) h1
  obtain ⟨a2, rfl, rfl, rfl, w2⟩ := open_int Try.underlying3 (hval 2 3 v2 rfl rfl) h2
  obtain ⟨a3, rfl, rfl, rfl, w3⟩ := open_int Try.underlying3 (hval 3 3 v3 rfl rfl) h3
  clear hA0 hval0 hsz0
  refine (walk_any _ _ _ _ W w0 w1 w2 w3).mono fun e W' ⟨he, bel⟩ => ?_
  subst he
  exact ⟨_, rfl, _, _, _, [], _, [], hW', trodAll_mk1 (shut_bool Try.underlying4 _), (trodAll_cons_mk (shut_int Try.underlying3 w0) (trodAll_cons_mk (shut_int Try.underlying3 w1) (trodAll_cons_mk (shut_int Try.underlying3 w2) (trodAll_cons_mk (shut_int Try.underlying3 w3) trodAll_mk0)))), rfl, bel.frame _, fun h => by cases h⟩
theorem over : Rows.marksShiftRow.holds Try.pinned (OpenSpec.ofChange Rows.marksShiftSpec) :=
  OpenClaim.holds_of_wide 3 Try.f3 rfl rfl rfl rfl rfl rfl rfl ⟨rfl, rfl, rfl, rfl, rfl⟩ rfl rfl rfl rfl rfl (by kernel_rfl) Try.func3 (by kernel_rfl)
    (of_decide_eq_true (by kernel_rfl)) (by unfold Func.isWrapper; first | (rw [if_pos (by decide +kernel)]; kernel_rfl) | (rw [if_neg (by decide +kernel)]; exact ⟨rfl, rfl⟩))
    (fun os started H enc _ => lifted os started H enc)
end Go.Proofs.Ytlmghmndojfjpaa.marksShift
namespace Go.Proofs.Ytlmghmndojfjpaa
theorem marksShift_holds : Rows.MarksShiftSaid := marksShift.over
#print axioms marksShift_holds
end Go.Proofs.Ytlmghmndojfjpaa
