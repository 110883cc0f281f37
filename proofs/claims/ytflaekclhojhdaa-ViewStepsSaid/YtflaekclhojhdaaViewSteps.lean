/- ViewSteps: a window that follows a cursor line by line moves by one line at its edges and stays otherwise; proved for every count, every start and every list of steps, under no condition. -/
import Derived.Test.YtflaekclhojhdaaRows
import Derived.Test.YtflaekclhojhdaaPViewStepsx1
import Derived.WalkKit
import Derived.ProofKit
import Derived.OpenShut
import Derived.ChangeOld
import Derived.Below
import Derived.SizedLaws
import Derived.Deep.Grids
namespace Go.Proofs.Ytflaekclhojhdaa.StepsPure
open Go.RowKit Go.Proofs.Ytflaekclhojhdaa.PViewSteps Go.Proofs.YtflaekclhojhdaaW.PrintWords Go.Proofs.YtflaekclhojhdaaW.PrintLast Go.Proofs.YtflaekclhojhdaaW.PrintMore

theorem known_true : foolscaplaw30_known.f = some true := by decide +kernel

theorem scroll_val (top line n : Int) (h0 : 0 ≤ top) (h1 : top < n) (h2 : 0 ≤ line) (h3 : line < n) (hn : n ≤ 256) :
    view_Scroll.f top line n = some (if line < top then line else if line - top ≥ 10 then line - 9 else top) := by
  unfold view_Scroll.f view_first.f view_near.f
  simp only [Option.bind_some]
  have e1 : mn (mx (mn (mx top (-1073741824)) 1073741824) 0) (mx (wrap64 (mn (mx n (-1073741824)) 1073741824 - 1)) 0) = top := by
    unfold mn mx wrap64; (repeat' split) <;> omega
  have e2 : mn (mx line (-1073741824)) 1073741824 = line := by
    unfold mn mx; (repeat' split) <;> omega
  have e3 : wrap64 (line - top) = line - top := by unfold wrap64; omega
  have e4 : wrap64 (wrap64 (line - 10) + 1) = line - 9 := by unfold wrap64; omega
  have e5 : mx line 0 = line := by unfold mx; split <;> omega
  rw [e1, e2, e3, e4, e5, if_neg (by omega)]
  by_cases a : line < top
  · rw [if_pos a, if_pos a]
  · rw [if_neg a, if_neg a]
    by_cases b : line - top ≥ 10
    · rw [if_pos b, if_pos b]
    · rw [if_neg b, if_neg b]

theorem steps_loop (l : List Bool) (n : Int) (hn0 : 1 ≤ n) (hn : n ≤ 256) (hl : l.length ≤ 100) (d : Nat) :
    ∀ (k : Nat) (line top i : Int), 0 ≤ i → i ≤ l.length → (l.length : Int) - i = d → 2 * d < k → 0 ≤ top → top ≤ line → line < top + 10 → line < n →
      foolscaplaw30_ViewSteps.l0 k l n line top i = some true := by
  induction d with
  | zero =>
    intro k line top i h0 h1 hd hk _ _ _ _
    obtain ⟨k, rfl⟩ : ∃ m, k = m + 1 := ⟨k - 1, by omega⟩
    simp only [foolscaplaw30_ViewSteps.l0]
    rw [if_neg (by omega)]
  | succ d ih =>
    intro k line top i h0 h1 hd hk ht0 ht1 ht2 ht3
    obtain ⟨k, rfl⟩ : ∃ m, k = m + 2 := ⟨k - 2, by omega⟩
    have j : ∀ line' : Int, line' ≤ line + 1 → line - 1 ≤ line' → 0 ≤ line' → line' < n → foolscaplaw30_ViewSteps.j1 (k + 1) l n line' top i = some true := by
      intro line' g1 g2 g3 g4
      simp only [foolscaplaw30_ViewSteps.j1]
      rw [scroll_val top line' n ht0 (by omega) g3 g4 hn]
      simp only [Option.bind_some]
      have ei : wrap64 (i + 1) = i + 1 := by unfold wrap64; omega
      have et : wrap64 (top - 1) = top - 1 := by unfold wrap64; omega
      have eu : wrap64 (top + 10) = top + 10 := by unfold wrap64; omega
      have ev : wrap64 (top + 1) = top + 1 := by unfold wrap64; omega
      rw [ei, et, eu, ev]
      by_cases a : line' < top
      · rw [if_pos a, if_pos a, if_pos (by omega)]
        exact ih k line' line' (i + 1) (by omega) (by omega) (by omega) (by omega) (by omega) (by omega) (by omega) (by omega)
      · rw [if_neg a, if_neg a]
        by_cases b : line' ≥ top + 10
        · rw [if_pos b, if_pos (show line' - top ≥ 10 by omega), if_pos (by omega)]
          exact ih k line' (line' - 9) (i + 1) (by omega) (by omega) (by omega) (by omega) (by omega) (by omega) (by omega) (by omega)
        · rw [if_neg b, if_neg (show ¬ (line' - top ≥ 10) by omega), if_pos rfl]
          exact ih k line' top (i + 1) (by omega) (by omega) (by omega) (by omega) (by omega) (by omega) (by omega) (by omega)
    rw [show k + 2 = (k + 1) + 1 from rfl]
    simp only [foolscaplaw30_ViewSteps.l0]
    rw [if_pos (by omega), if_pos h0]
    have e1 : mn (wrap64 (line + 1)) (wrap64 (n - 1)) ≤ line + 1 ∧ line - 1 ≤ mn (wrap64 (line + 1)) (wrap64 (n - 1)) ∧ 0 ≤ mn (wrap64 (line + 1)) (wrap64 (n - 1)) ∧ mn (wrap64 (line + 1)) (wrap64 (n - 1)) < n := by
      unfold mn wrap64; split <;> omega
    have e2 : mx (wrap64 (line - 1)) 0 ≤ line + 1 ∧ line - 1 ≤ mx (wrap64 (line - 1)) 0 ∧ 0 ≤ mx (wrap64 (line - 1)) 0 ∧ mx (wrap64 (line - 1)) 0 < n := by
      unfold mx wrap64; split <;> omega
    split
    · exact j _ e1.1 e1.2.1 e1.2.2.1 e1.2.2.2
    · exact j _ e2.1 e2.2.1 e2.2.2.1 e2.2.2.2

theorem steps_true (a b : Int) (l : List Bool) (ha : 0 ≤ a ∧ a ≤ 255) (hb : 0 ≤ b ∧ b ≤ 255) : foolscaplaw30_ViewSteps.f 202 a l b = some true := by
  unfold foolscaplaw30_ViewSteps.f
  rw [known_true]
  simp only [Option.bind_some, if_true]
  by_cases hl : (l.length : Int) > 100
  · rw [if_pos hl]
  · rw [if_neg hl]
    have e1 : wrap64 (wrap64 a + 1) = a + 1 := by unfold wrap64; omega
    have e2 : wrap64 b = b := by unfold wrap64; omega
    rw [e1, e2, if_neg (by omega)]
    have e3 : Int.tmod b (a + 1) = b % (a + 1) := Int.tmod_eq_emod_of_nonneg hb.1
    have g0 : 0 ≤ b % (a + 1) := Int.emod_nonneg _ (by omega)
    have g1 : b % (a + 1) < a + 1 := Int.emod_lt_of_pos _ (by omega)
    rw [e3]
    obtain ⟨x, hx⟩ : ∃ x, b % (a + 1) = x := ⟨_, rfl⟩
    rw [hx] at g0 g1 ⊢
    clear e3 hx
    rw [scroll_val 0 x (a + 1) (by omega) (by omega) g0 g1 (by omega)]
    simp only [Option.bind_some]
    rw [if_neg (show ¬ (x < 0) by omega)]
    split
    · exact steps_loop l (a + 1) (by omega) (by omega) (by omega) l.length 202 x _ 0 (by omega) (by omega) (by omega) (by omega) (by omega) (by omega) (by omega) (by omega)
    · exact steps_loop l (a + 1) (by omega) (by omega) (by omega) l.length 202 x _ 0 (by omega) (by omega) (by omega) (by omega) (by omega) (by omega) (by omega) (by omega)

end Go.Proofs.Ytflaekclhojhdaa.StepsPure

namespace Go.Proofs.Ytflaekclhojhdaa.viewSteps
open Go.ChangeShapes Go.WideShapes Go.ChangeAt Go.RowKit Go.Deep Go.Proofs.YtflaekclhojhdaaW.PrintWords

theorem own : ownKnob Try.prog.godebug = none := by kernel_rfl
theorem laidOut : laidOutB Try.prog = true := by kernel_rfl

/-- A slice of bools that came in reads as a list. -/
theorem bools_C {H : Type} {enc : TypeId × Value → H} {P : Program} {W : World} {base : Nat} {held : Bool} {t e : TypeId} {a : Option Addr} {len cap : Nat} {d : DataW H} {ps : List MemPlace}
    (ht : P.underlying t = some (.slice e)) (he : P.underlying e = some .bool) (hc : P.cellsOf e = 1)
    (h : DataW.Trod enc P W base (fun _ => true) held t (.slice a len cap) d ps) : len ≤ cap ∧ ∃ l : List Bool, l.length = len ∧ Kd.C Kd.bool W a len l := by
  obtain ⟨fuel, hf⟩ := h
  rcases open_bools ht he hc hf with ⟨hcs, _⟩ | ⟨x, l, c, B, hcs, _, hl, hm, _, hcell⟩
  · simp [Value.cells] at hcs
    obtain ⟨rfl, rfl, rfl⟩ := hcs
    exact ⟨Nat.le_refl _, [], rfl, rfl, by omega, fun h => absurd h (by omega)⟩
  · simp [Value.cells] at hcs
    obtain ⟨rfl, rfl, rfl⟩ := hcs
    refine ⟨hl, (List.range len).map B, by simp, ?_⟩
    refine ⟨by simp, by unfold maxLen at hm; omega, fun _ => ⟨x, rfl, ?_⟩⟩
    intro j p hj
    have hj2 : j < len := by
      have := (List.getElem?_eq_some_iff.1 hj).1
      simpa using this
    have hp : p = B j := by
      rw [List.getElem?_map, List.getElem?_range hj2] at hj
      exact (Option.some.inj hj).symm
    refine ⟨[.bool p], rfl, rfl, ?_⟩
    intro i u hu
    cases i with
    | zero =>
      have : u = .bool p := by simpa using hu.symm
      subst this
      subst hp
      have := hcell j (by omega)
      simpa [Kd.bool, Kd.scalar] using this
    | succ i => simp at hu

set_option maxRecDepth 100000 in
theorem lifted (os : Os) (started : os.Started) (H : Type) (enc : TypeId × Value → H) :
    ReturnsInHanded {} Try.checked os 4 .any (Rows.viewStepsSpec.pre6 enc Try.prog Try.f4 Rows.viewStepsRow.domain false) (Rows.viewStepsSpec.post enc Try.prog Try.f4 false true false false) := by
  refine returnsInHanded_of_change_sized (C := Try.checked) own started (by kernel_rfl) Try.func4
    (ChangeSpec.witness6 (enc := enc) (C := Try.checked) false ⟨#[], #[.int .u8 0, .slice none 0 0, .int .u8 0], []⟩ 8 (by kernel_rfl) (by kernel_rfl) (by kernel_rfl) (by kernel_rfl)) ?_
  intro W base args ds gs before hval0 hW hcnd hsz0 _
  have hval : ∀ (j : Nat) t v, Try.f4.params[j]? = some t → args[j]? = some v → Value.okWide Try.prog W .any base t v := hval0
  have hW' := hW
  obtain ⟨p, q, hA0, hV, rfl, hfz, hnd⟩ := hW
  have hA : DataW.TrodAll enc Try.prog W 0 (fun _ => true) true Try.f4.params.toList args.toList ds p := hA0
  rw [Try.params4] at hA hval
  obtain ⟨v0, vs0, d0, ds0, p0, q0, hargs, rfl, rfl, h0, r0⟩ := trodAll_cons hA
  obtain ⟨v1, vs1, d1, ds1, p1, q1, rfl, rfl, rfl, h1, r1⟩ := trodAll_cons r0
  obtain ⟨v2, vs2, d2, ds2, p2, q2, rfl, rfl, rfl, h2, r2⟩ := trodAll_cons r1
  obtain ⟨rfl, rfl, rfl⟩ := trodAll_nil r2
  obtain rfl : args = #[v0, v1, v2] := by cases args; simp_all
  obtain ⟨rfl, rfl⟩ := trodVars_none hV
  obtain ⟨a0, rfl, rfl, rfl, w0⟩ := open_int Try.underlying5 (hval 0 5 v0 rfl rfl) h0
  obtain ⟨a1, len1, cap1, rfl⟩ := okWide_slice Try.underlying29 (hval 1 29 v1 rfl rfl)
  have k1 := h1
  have lt1 : ∀ x ∈ p1, x.block < W.heap.size := by obtain ⟨m, hm⟩ := k1; exact DataW.trod_lt m _ _ _ hm
  obtain ⟨hc1, l1, hl1, hr1⟩ := bools_C Try.underlying29 Try.underlying4 (by kernel_rfl) h1
  obtain ⟨a2, rfl, rfl, rfl, w2⟩ := open_int Try.underlying5 (hval 2 5 v2 rfl rfl) h2
  clear hA0 hval0 hsz0
  subst hl1
  refine (PViewSteps.foolscaplaw30_ViewSteps.calls 202 a0 a1 cap1 l1 a2 true W hr1 hc1 (StepsPure.steps_true a0 a2 l1 (bounds_u8 w0) (bounds_u8 w2))).mono fun e W' ⟨he, bel⟩ => ?_
  subst he
  exact ⟨_, rfl, _, _, _, [], _, [], hW', trodAll_mk1 (shut_bool Try.underlying4 _), (trodAll_cons_mk (shut_int Try.underlying5 w0) (trodAll_cons_mk (Below.trod laidOut (by kernel_rfl) (of_decide_eq_true (by kernel_rfl)) k1 bel lt1) (trodAll_cons_mk (shut_int Try.underlying5 w2) trodAll_mk0))), rfl, bel.frame _, fun h => by cases h⟩
theorem over : Rows.viewStepsRow.holds Try.pinned (OpenSpec.ofChange Rows.viewStepsSpec) :=
  OpenClaim.holds_of_wide 4 Try.f4 rfl rfl rfl rfl rfl rfl rfl ⟨rfl, rfl, rfl, rfl, rfl⟩ rfl rfl rfl rfl rfl (by kernel_rfl) Try.func4 (by kernel_rfl)
    (of_decide_eq_true (by kernel_rfl)) (by unfold Func.isWrapper; first | (rw [if_pos (by decide +kernel)]; kernel_rfl) | (rw [if_neg (by decide +kernel)]; exact ⟨rfl, rfl⟩))
    (fun os started H enc _ => lifted os started H enc)
end Go.Proofs.Ytflaekclhojhdaa.viewSteps
namespace Go.Proofs.Ytflaekclhojhdaa
theorem viewSteps_holds : Rows.ViewStepsSaid := viewSteps.over
#print axioms viewSteps_holds
end Go.Proofs.Ytflaekclhojhdaa
