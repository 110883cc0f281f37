/- MarksLines: lines put in or taken out ahead of a mark move it just so far, and those behind it not at all; proved for every input, under no condition. -/
import Derived.Test.YtlmghmndojfjpaaRows
import Derived.Test.YtlmghmndojfjpaaMarksKnown
import Derived.WalkKit
import Derived.ProofKit
import Derived.OpenShut
import Derived.ChangeOld
import Derived.SizedLaws
namespace Go.Proofs.Ytlmghmndojfjpaa.marksLines
open Go.RowKit Go.Proofs.Ytlmghmndojfjpaa.Frm Go.Proofs.Ytlmghmndojfjpaa.Shf Go.Proofs.Ytlmghmndojfjpaa.Mk
set_option linter.unusedVariables false
set_option linter.unusedSimpArgs false

def g1 (a : Int) : Nat → Option (Int × Int) := fun j => if j = 107 then some (a, 7) else none

theorem g1_dom (a : Int) (k : Nat) (hk : 256 ≤ k) : g1 a k = none := by unfold g1; rw [if_neg (by omega)]
theorem g1_bd (a : Int) (h : 0 ≤ a ∧ a ≤ 255) (k : Nat) (p : Int × Int) (hk : g1 a k = some p) : -1099511627776 ≤ p.1 ∧ p.1 ≤ 1099511627776 := by
  unfold g1 at hk
  split at hk
  · simp at hk; subst hk; constructor <;> (simp only; omega)
  · cases hk
theorem adj_is (a at_ old now : Int) : adj (g1 a) at_ old now 107 = if (shift a at_ old now).2 then some ((shift a at_ old now).1, 7) else none := by
  simp [adj, adj1, g1]
theorem wrong_no {n : Int} (h : 0 ≤ n ∧ n ≤ 255) : wrongB n = false := by
  simp [wrongB]; omega
theorem shift_in {a b n : Int} (ha : 0 ≤ a ∧ a ≤ 255) (hb : 0 ≤ b ∧ b ≤ 255) (hn : 0 ≤ n ∧ n ≤ 255) : shift a b 0 n = (if b ≤ a then a + n else a, true) := by
  unfold shift
  rw [wrong_no hb, wrong_no hn, wrong_no (n := 0) (by omega)]
  by_cases h : b ≤ a
  · have h1 : ¬ (a < b) := by omega
    have h2 : 0 ≤ a - b := by omega
    simp [h, h1, h2]
  · have h1 : a < b := by omega
    simp [h, h1]
theorem shift_out {a b n : Int} (ha : 0 ≤ a ∧ a ≤ 255) (hb : 0 ≤ b ∧ b ≤ 255) (hn : 0 ≤ n ∧ n ≤ 255) : shift a b n 0 = if b ≤ a then (if a < b + n then (0, false) else (a - n, true)) else (a, true) := by
  unfold shift
  rw [wrong_no hb, wrong_no hn, wrong_no (n := 0) (by omega)]
  by_cases h : b ≤ a
  · have h1 : ¬ (a < b) := by omega
    by_cases h3 : a < b + n
    · have h2 : ¬ (n ≤ a - b) := by omega
      have h4 : ¬ (a - b < 0) := by omega
      simp [h, h1, h2, h3, h4]
    · have h2 : n ≤ a - b := by omega
      simp [h, h1, h2, h3]
      omega
  · have h1 : a < b := by omega
    simp [h, h1]

set_option maxHeartbeats 4000000 in
set_option maxRecDepth 100000 in
theorem law_in (a b n : Int) (w : World) (ha : 0 ≤ a ∧ a ≤ 255) (hb : 0 ≤ b ∧ b ≤ 255) (hn : 0 ≤ n ∧ n ≤ 255) :
    Calls Try.prog 6 #[.int .u8 a, .int .u8 b, .int .u8 n, .bool true] w fun e w' => e = .returned (.bool true) ∧ Below w.heap.size w w' := by
  obtain ⟨ha0, ha1⟩ := ha
  obtain ⟨hb0, hb1⟩ := hb
  obtain ⟨hn0, hn1⟩ := hn
  go_enter Try.func6, Try.ntmps6
  go_wp2_with (go_at_call 8; refine (Mk.known_calls _).mono ?_; rintro e w1 ⟨rfl, hb⟩)
  refine (new_calls _).mono ?_
  rintro e w2 ⟨rfl, hA2, hO2⟩
  go_wp2_with fail
  refine (set_yes _ _ (fun _ => none) 107 (a, 7) _ hA2 (by decide)).mono ?_
  rintro e w3 ⟨rfl, hA3, hO3⟩
  have hA3 : At w3 _ _ (g1 a) := hA3
  go_wp2_with fail
  refine (adjust_calls _ _ (g1 a) b 0 n _ hA3 (g1_dom a) (g1_bd a ⟨ha0, ha1⟩)).mono ?_
  rintro e w4 ⟨rfl, hA4, hO4⟩
  go_wp2_with fail
  refine (get_calls _ _ _ 107 _ hA4 (by decide)).mono ?_
  rintro e w5 ⟨rfl, hO5⟩
  rw [adj_is, shift_in ⟨ha0, ha1⟩ ⟨hb0, hb1⟩ ⟨hn0, hn1⟩]
  simp only [if_true, posOr, posV, Option.getD_some, Option.isSome_some]
  have hall : Only (fun k => k = w1.heap.size) w1 w5 := (((hO2.mono (fun _ _ h => h.elim)).trans' hO3).trans' hO4).trans hO5 (fun _ _ h => h.elim)
  have Hall := Lib.hid hall
  clear hall hA2 hA3 hA4 hO2 hO3 hO4 hO5
  by_cases h : b ≤ a
  · rw [if_pos h]
    go_wp2
    go_ret
    exact ⟨by first | rfl | (simp; done) | (simp [*]; done), ((hb.trans ((Hall.out.below (B := w.heap.size) hb.size (fun k hk => by have := hb.size; omega)))).alloc (by have := hb.size; have := Hall.out.size; omega) _)⟩
  · rw [if_neg h]
    go_wp2
    go_ret
    exact ⟨by first | rfl | (simp; done) | (simp [*]; done), ((hb.trans ((Hall.out.below (B := w.heap.size) hb.size (fun k hk => by have := hb.size; omega)))).alloc (by have := hb.size; have := Hall.out.size; omega) _)⟩

set_option maxHeartbeats 4000000 in
set_option maxRecDepth 100000 in
theorem law_out (a b n : Int) (w : World) (ha : 0 ≤ a ∧ a ≤ 255) (hb : 0 ≤ b ∧ b ≤ 255) (hn : 0 ≤ n ∧ n ≤ 255) :
    Calls Try.prog 6 #[.int .u8 a, .int .u8 b, .int .u8 n, .bool false] w fun e w' => e = .returned (.bool true) ∧ Below w.heap.size w w' := by
  obtain ⟨ha0, ha1⟩ := ha
  obtain ⟨hb0, hb1⟩ := hb
  obtain ⟨hn0, hn1⟩ := hn
  go_enter Try.func6, Try.ntmps6
  go_wp2_with (go_at_call 8; refine (Mk.known_calls _).mono ?_; rintro e w1 ⟨rfl, hb⟩)
  refine (new_calls _).mono ?_
  rintro e w2 ⟨rfl, hA2, hO2⟩
  go_wp2_with fail
  refine (set_yes _ _ (fun _ => none) 107 (a, 7) _ hA2 (by decide)).mono ?_
  rintro e w3 ⟨rfl, hA3, hO3⟩
  have hA3 : At w3 _ _ (g1 a) := hA3
  go_wp2_with fail
  refine (adjust_calls _ _ (g1 a) b n 0 _ hA3 (g1_dom a) (g1_bd a ⟨ha0, ha1⟩)).mono ?_
  rintro e w4 ⟨rfl, hA4, hO4⟩
  go_wp2_with fail
  refine (get_calls _ _ _ 107 _ hA4 (by decide)).mono ?_
  rintro e w5 ⟨rfl, hO5⟩
  have hall : Only (fun k => k = w1.heap.size) w1 w5 := (((hO2.mono (fun _ _ h => h.elim)).trans' hO3).trans' hO4).trans hO5 (fun _ _ h => h.elim)
  have Hall := Lib.hid hall
  clear hall hA2 hA3 hA4 hO2 hO3 hO4 hO5
  rw [adj_is, shift_out ⟨ha0, ha1⟩ ⟨hb0, hb1⟩ ⟨hn0, hn1⟩]
  by_cases h : b ≤ a
  · rw [if_pos h]
    by_cases h2 : a < b + n
    · rw [if_pos h2]
      simp only [if_false, posOr, posV, Option.getD_none, Option.isSome_none, Bool.false_eq_true]
      go_wp2
      go_ret
      exact ⟨by first | rfl | (simp; done) | (simp [*]; done), ((hb.trans ((Hall.out.below (B := w.heap.size) hb.size (fun k hk => by have := hb.size; omega)))).alloc (by have := hb.size; have := Hall.out.size; omega) _)⟩
    · rw [if_neg h2]
      simp only [if_true, posOr, posV, Option.getD_some, Option.isSome_some]
      go_wp2
      go_ret
      exact ⟨by first | rfl | (simp; done) | (simp [*]; done), ((hb.trans ((Hall.out.below (B := w.heap.size) hb.size (fun k hk => by have := hb.size; omega)))).alloc (by have := hb.size; have := Hall.out.size; omega) _)⟩
  · rw [if_neg h]
    simp only [if_true, posOr, posV, Option.getD_some, Option.isSome_some]
    go_wp2
    go_ret
    exact ⟨by first | rfl | (simp; done) | (simp [*]; done), ((hb.trans ((Hall.out.below (B := w.heap.size) hb.size (fun k hk => by have := hb.size; omega)))).alloc (by have := hb.size; have := Hall.out.size; omega) _)⟩

theorem walk_any (a b n : Int) (i : Bool) (w : World) (ha : (Lit.int .u8 a).wf = true) (hb : (Lit.int .u8 b).wf = true) (hn : (Lit.int .u8 n).wf = true) :
    Calls Try.prog 6 #[.int .u8 a, .int .u8 b, .int .u8 n, .bool i] w fun e w' => e = .returned (.bool true) ∧ Below w.heap.size w w' := by
  cases i with
  | true => exact law_in a b n w (bounds_u8 ha) (bounds_u8 hb) (bounds_u8 hn)
  | false => exact law_out a b n w (bounds_u8 ha) (bounds_u8 hb) (bounds_u8 hn)

open Go.ChangeShapes Go.WideShapes Go.ChangeAt
open Go.ChangeMaps (open_string shut_string)
theorem own : ownKnob Try.prog.godebug = none := by kernel_rfl
set_option maxRecDepth 100000 in
theorem lifted (os : Os) (started : os.Started) (H : Type) (enc : TypeId × Value → H) :
    ReturnsInHanded {} Try.checked os 6 .any (Rows.marksLinesSpec.pre6 enc Try.prog Try.f6 Rows.marksLinesRow.domain false) (Rows.marksLinesSpec.post enc Try.prog Try.f6 false true false false) := by
  refine returnsInHanded_of_change_sized (C := Try.checked) own started (by kernel_rfl) Try.func6
    (ChangeSpec.witness6 (enc := enc) (C := Try.checked) false ⟨#[], #[.int .u8 0, .int .u8 0, .int .u8 0, .bool false], []⟩ 8 (by kernel_rfl) (by kernel_rfl) (by kernel_rfl) (by kernel_rfl)) ?_
  intro W base args ds gs before hval0 hW hcnd hsz0 _
  have hsz : (DataW.weightsEach Try.prog (Try.f6.params.toList ++ Rows.marksLinesSpec.plain.varTypes Try.prog) (ds ++ gs)).all (· ≤ reachBytes) = true := hsz0
  have hval : ∀ (j : Nat) t v, Try.f6.params[j]? = some t → args[j]? = some v → Value.okWide Try.prog W .any base t v := hval0
  have hW' := hW
  obtain ⟨p, q, hA0, hV, rfl, hfz, hnd⟩ := hW
  have hA : DataW.TrodAll enc Try.prog W 0 (fun _ => true) true Try.f6.params.toList args.toList ds p := hA0
  rw [Try.params6] at hA hval hsz
  obtain ⟨v0, vs0, d0, ds0, p0, q0, hargs, rfl, rfl, h0, r0⟩ := trodAll_cons hA
  obtain ⟨v1, vs1, d1, ds1, p1, q1, rfl, rfl, rfl, h1, r1⟩ := trodAll_cons r0
  obtain ⟨v2, vs2, d2, ds2, p2, q2, rfl, rfl, rfl, h2, r2⟩ := trodAll_cons r1
  obtain ⟨v3, vs3, d3, ds3, p3, q3, rfl, rfl, rfl, h3, r3⟩ := trodAll_cons r2
  obtain ⟨rfl, rfl, rfl⟩ := trodAll_nil r3
  obtain rfl : args = #[v0, v1, v2, v3] := by cases args; simp_all
  obtain ⟨rfl, rfl⟩ := trodVars_none hV
  obtain ⟨a0, rfl, rfl, rfl, w0⟩ := open_int Try.underlying5 (hval 0 5 v0 rfl rfl) h0
  obtain ⟨a1, rfl, rfl, rfl, w1⟩ := open_int Try.underlying5 (hval 1 5 v1 rfl rfl) h1
  obtain ⟨a2, rfl, rfl, rfl, w2⟩ := open_int Try.underlying5 (hval 2 5 v2 rfl rfl) h2
  obtain ⟨a3, rfl, rfl, rfl⟩ := open_bool Try.underlying4 (hval 3 4 v3 rfl rfl) h3
  clear hA0 hval0 hsz0
  refine (walk_any _ _ _ _ W w0 w1 w2).mono fun e W' ⟨he, bel⟩ => ?_
  subst he
  exact ⟨_, rfl, _, _, _, [], _, [], hW', trodAll_mk1 (shut_bool Try.underlying4 _), (trodAll_cons_mk (shut_int Try.underlying5 w0) (trodAll_cons_mk (shut_int Try.underlying5 w1) (trodAll_cons_mk (shut_int Try.underlying5 w2) (trodAll_cons_mk (shut_bool Try.underlying4 _) trodAll_mk0)))), rfl, bel.frame _, fun h => by cases h⟩
theorem over : Rows.marksLinesRow.holds Try.pinned (OpenSpec.ofChange Rows.marksLinesSpec) :=
  OpenClaim.holds_of_wide 6 Try.f6 rfl rfl rfl rfl rfl rfl rfl ⟨rfl, rfl, rfl, rfl, rfl⟩ rfl rfl rfl rfl rfl (by kernel_rfl) Try.func6 (by kernel_rfl)
    (of_decide_eq_true (by kernel_rfl)) (by unfold Func.isWrapper; first | (rw [if_pos (by decide +kernel)]; kernel_rfl) | (rw [if_neg (by decide +kernel)]; exact ⟨rfl, rfl⟩))
    (fun os started H enc _ => lifted os started H enc)
end Go.Proofs.Ytlmghmndojfjpaa.marksLines
namespace Go.Proofs.Ytlmghmndojfjpaa
theorem marksLines_holds : Rows.MarksLinesSaid := marksLines.over
#print axioms marksLines_holds
end Go.Proofs.Ytlmghmndojfjpaa
