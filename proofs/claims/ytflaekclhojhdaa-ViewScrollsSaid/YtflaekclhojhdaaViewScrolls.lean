/- ViewScrolls: the program's window and the document's agree at every first line, line and count; a scroll brings the line into the window, goes no farther, and a second one changes nothing; proved for every input, under no condition. -/
import Derived.Test.YtflaekclhojhdaaRows
import Derived.Test.YtflaekclhojhdaaScrollsPure
import Derived.WalkKit
import Derived.Lib.Hide
import Derived.WalkSpells
import Derived.WalkLawsBesides
import Derived.ProofKit
import Derived.OpenShut
import Derived.ChangeOld
import Derived.Below
import Derived.SizedLaws
namespace Go.Proofs.Ytflaekclhojhdaa.viewScrolls
open Go.RowKit Go.Proofs.Ytflaekclhojhdaa.PViewScrolls Go.Proofs.YtflaekclhojhdaaW.PrintWords Go.Proofs.YtflaekclhojhdaaW.PrintLast Go.Proofs.YtflaekclhojhdaaW.PrintMore
open Go.Proofs.Ytflaekclhojhdaa.ScrollsPure
set_option linter.unusedVariables false
theorem bcell {W w1 : World} (hb : Below W.heap.size W w1) : (∀ b o, b < W.heap.size → w1.cell? ⟨b, o, none⟩ = W.cell? ⟨b, o, none⟩) ∧ (∀ b o, b < W.heap.size → w1.frozen? ⟨b, o, none⟩ = W.frozen? ⟨b, o, none⟩) :=
  ⟨fun b o h => hb.cell (p := ⟨b, o, none⟩) h, fun b o h => hb.frozen (p := ⟨b, o, none⟩) h⟩
theorem below_two {B : Nat} {a b c : World} (h : Below B a b) (hb : Below b.heap.size b c) (hB : B ≤ b.heap.size) : Below B a c := h.trans (hb.mono hB)
set_option maxHeartbeats 4000000 in
set_option maxRecDepth 100000 in
theorem scrolls_any (a b c : Int) (w : World) :
    Calls Try.prog 3 #[.int .i64 a, .int .i64 b, .int .i64 c] w fun e w' => e = .returned (.bool true) ∧ Below w.heap.size w w' := by
  go_enter Try.func3, Try.ntmps3
  go_wp2_with (go_at_call 6; refine (foolscaplaw30_known.calls true _ known_true).mono ?_; rintro e w1 ⟨rfl, hb⟩)
  generalize a.tmod 60 = d
  generalize b.tmod 60 = f
  generalize c.tmod 60 = g
  have hsz := hb.size
  go_loopw [31] (fun i wr => ∃ k : Nat, k ≤ 2 ∧ i = .int .i64 k ∧ Below w.heap.size w wr ∧ Below (w1.heap.size + 1) (w1.alloc (Obj.cells #[Value.int IntKind.i64 a, Value.int IntKind.i64 b, Value.int IntKind.i64 c, Value.int IntKind.i64 d, Value.int IntKind.i64 f, Value.int IntKind.i64 g] 23)) wr) (fun i _ => 2 - (intOf i).toNat)
  case atStart => exact ⟨0, by omega, rfl, hb.alloc hsz _, Below.refl _ _⟩
  case round =>
    obtain ⟨k, hk, rfl, hbw, hcw⟩ := hrel
    have hsz2 := hcw.size
    simp at hsz2
    by_cases h2 : k < 2
    · have c0 : wr.cell? ⟨w1.heap.size, 0, none⟩ = some (.int .i64 a) := by rw [hcw.cell (by simp)]; go_simp
      have c1 : wr.cell? ⟨w1.heap.size, 0 + 1, none⟩ = some (.int .i64 b) := by rw [hcw.cell (by simp)]; go_simp
      have c2 : wr.cell? ⟨w1.heap.size, 0 + 2, none⟩ = some (.int .i64 c) := by rw [hcw.cell (by simp)]; go_simp
      have c3 : wr.cell? ⟨w1.heap.size, 3, none⟩ = some (.int .i64 d) := by rw [hcw.cell (by simp)]; go_simp
      have c4 : wr.cell? ⟨w1.heap.size, 3 + 1, none⟩ = some (.int .i64 f) := by rw [hcw.cell (by simp)]; go_simp
      have c5 : wr.cell? ⟨w1.heap.size, 3 + 2, none⟩ = some (.int .i64 g) := by rw [hcw.cell (by simp)]; go_simp
      rcases (show k = 0 ∨ k = 1 by omega) with rfl | rfl
      · go_wp2_with fail
        go_at_call 7
        refine (view_Scroll.calls a b c _ _ (scroll_is _ _ _)).mono ?_
        rintro e v1 ⟨rfl, hb_v1⟩; obtain ⟨hc_v1, hf_v1⟩ := bcell hb_v1; have hz_v1 : wr.heap.size < v1.heap.size := by (have := hb_v1.size; (try simp at this); omega)
        go_wp2_with fail
        go_at_call 8
        refine (view_Shown.calls a c _ _ _ (shown_is _ _)).mono ?_
        rintro e v2 ⟨rfl, hb_v2⟩; obtain ⟨hc_v2, hf_v2⟩ := bcell hb_v2; have hz_v2 : wr.heap.size < v2.heap.size := by (have := hb_v2.size; (try simp at this); omega)
        go_wp2_with fail
        go_at_call 9
        refine (foolscapref25_Shown.calls a c _ _ _ (ref_shown_is _ _)).mono ?_
        rintro e v3 ⟨rfl, hb_v3⟩; obtain ⟨hc_v3, hf_v3⟩ := bcell hb_v3; have hz_v3 : wr.heap.size < v3.heap.size := by (have := hb_v3.size; (try simp at this); omega)
        go_wp2_with fail
        go_at_call 10
        refine (foolscapref25_Scroll.calls a b c _ _ (ref_scroll_is _ _ _)).mono ?_
        rintro e v4 ⟨rfl, hb_v4⟩; obtain ⟨hc_v4, hf_v4⟩ := bcell hb_v4; have hz_v4 : wr.heap.size < v4.heap.size := by (have := hb_v4.size; (try simp at this); omega)
        have q4 : Below w.heap.size w v4 := ((hbw.alloc (by omega) _).trans (hb_v1.mono (by simp; omega))).trans ((((hb_v2.mono (by omega)).trans (hb_v3.mono (by omega))).trans (hb_v4.mono (by omega))))
        have r4 : Below (w1.heap.size + 1) _ v4 := ((hcw.alloc (by omega) _).trans (hb_v1.mono (by simp; omega))).trans ((((hb_v2.mono (by omega)).trans (hb_v3.mono (by omega))).trans (hb_v4.mono (by omega))))
        go_wp2_with fail
        · obtain ⟨ha1, ha2, ha3, ha4, ha5⟩ := after a b c (by assumption) (by assumption) (by assumption)
          have ha5 := Lib.hid ha5
          go_at_call 8
          refine (view_Shown.calls (scr a b c) c _ _ _ (shown_is _ _)).mono ?_
          rintro e v5 ⟨rfl, hb_v5⟩; obtain ⟨hc_v5, hf_v5⟩ := bcell hb_v5; have hz_v5 : wr.heap.size < v5.heap.size := by (have := hb_v5.size; (try simp at this); omega)
          go_wp2_with fail
          go_at_call 7
          refine (view_Scroll.calls (scr a b c) b c (scr a b c) _ (by rw [scroll_is, ha5.out])).mono ?_
          rintro e v6 ⟨rfl, hb_v6⟩; obtain ⟨hc_v6, hf_v6⟩ := bcell hb_v6; have hz_v6 : wr.heap.size < v6.heap.size := by (have := hb_v6.size; (try simp at this); omega)
          go_wp2_with fail
          exact ⟨⟨1, by omega, rfl, q4.trans ((hb_v5.mono (by omega)).trans (hb_v6.mono (by omega))), r4.trans ((hb_v5.mono (by omega)).trans (hb_v6.mono (by omega)))⟩, by simp [intOf]⟩
        · exact ⟨⟨1, by omega, rfl, q4, r4⟩, by simp [intOf]⟩
        · exact ⟨⟨1, by omega, rfl, q4, r4⟩, by simp [intOf]⟩
        · exact ⟨⟨1, by omega, rfl, q4, r4⟩, by simp [intOf]⟩
      · go_wp2_with fail
        go_at_call 7
        refine (view_Scroll.calls d f g _ _ (scroll_is _ _ _)).mono ?_
        rintro e v1 ⟨rfl, hb_v1⟩; obtain ⟨hc_v1, hf_v1⟩ := bcell hb_v1; have hz_v1 : wr.heap.size < v1.heap.size := by (have := hb_v1.size; (try simp at this); omega)
        go_wp2_with fail
        go_at_call 8
        refine (view_Shown.calls d g _ _ _ (shown_is _ _)).mono ?_
        rintro e v2 ⟨rfl, hb_v2⟩; obtain ⟨hc_v2, hf_v2⟩ := bcell hb_v2; have hz_v2 : wr.heap.size < v2.heap.size := by (have := hb_v2.size; (try simp at this); omega)
        go_wp2_with fail
        go_at_call 9
        refine (foolscapref25_Shown.calls d g _ _ _ (ref_shown_is _ _)).mono ?_
        rintro e v3 ⟨rfl, hb_v3⟩; obtain ⟨hc_v3, hf_v3⟩ := bcell hb_v3; have hz_v3 : wr.heap.size < v3.heap.size := by (have := hb_v3.size; (try simp at this); omega)
        go_wp2_with fail
        go_at_call 10
        refine (foolscapref25_Scroll.calls d f g _ _ (ref_scroll_is _ _ _)).mono ?_
        rintro e v4 ⟨rfl, hb_v4⟩; obtain ⟨hc_v4, hf_v4⟩ := bcell hb_v4; have hz_v4 : wr.heap.size < v4.heap.size := by (have := hb_v4.size; (try simp at this); omega)
        have q4 : Below w.heap.size w v4 := ((hbw.alloc (by omega) _).trans (hb_v1.mono (by simp; omega))).trans ((((hb_v2.mono (by omega)).trans (hb_v3.mono (by omega))).trans (hb_v4.mono (by omega))))
        have r4 : Below (w1.heap.size + 1) _ v4 := ((hcw.alloc (by omega) _).trans (hb_v1.mono (by simp; omega))).trans ((((hb_v2.mono (by omega)).trans (hb_v3.mono (by omega))).trans (hb_v4.mono (by omega))))
        go_wp2_with fail
        · obtain ⟨ha1, ha2, ha3, ha4, ha5⟩ := after d f g (by assumption) (by assumption) (by assumption)
          have ha5 := Lib.hid ha5
          go_at_call 8
          refine (view_Shown.calls (scr d f g) g _ _ _ (shown_is _ _)).mono ?_
          rintro e v5 ⟨rfl, hb_v5⟩; obtain ⟨hc_v5, hf_v5⟩ := bcell hb_v5; have hz_v5 : wr.heap.size < v5.heap.size := by (have := hb_v5.size; (try simp at this); omega)
          go_wp2_with fail
          go_at_call 7
          refine (view_Scroll.calls (scr d f g) f g (scr d f g) _ (by rw [scroll_is, ha5.out])).mono ?_
          rintro e v6 ⟨rfl, hb_v6⟩; obtain ⟨hc_v6, hf_v6⟩ := bcell hb_v6; have hz_v6 : wr.heap.size < v6.heap.size := by (have := hb_v6.size; (try simp at this); omega)
          go_wp2_with fail
          exact ⟨⟨2, by omega, rfl, q4.trans ((hb_v5.mono (by omega)).trans (hb_v6.mono (by omega))), r4.trans ((hb_v5.mono (by omega)).trans (hb_v6.mono (by omega)))⟩, by simp [intOf]⟩
        · exact ⟨⟨2, by omega, rfl, q4, r4⟩, by simp [intOf]⟩
        · exact ⟨⟨2, by omega, rfl, q4, r4⟩, by simp [intOf]⟩
        · exact ⟨⟨2, by omega, rfl, q4, r4⟩, by simp [intOf]⟩
    · have : k = 2 := by omega
      subst this
      go_wp2
      go_ret
      exact ⟨rfl, hbw⟩

open Go.ChangeShapes Go.WideShapes Go.ChangeAt
theorem own : ownKnob Try.prog.godebug = none := by kernel_rfl
set_option maxRecDepth 100000 in
theorem lifted (os : Os) (started : os.Started) (H : Type) (enc : TypeId × Value → H) :
    ReturnsInHanded {} Try.checked os 3 .any (Rows.viewScrollsSpec.pre6 enc Try.prog Try.f3 Rows.viewScrollsRow.domain false) (Rows.viewScrollsSpec.post enc Try.prog Try.f3 false true false false) := by
  refine returnsInHanded_of_change_sized (C := Try.checked) own started (by kernel_rfl) Try.func3
    (ChangeSpec.witness6 (enc := enc) (C := Try.checked) false ⟨#[], #[.int .i64 0, .int .i64 0, .int .i64 0], []⟩ 8 (by kernel_rfl) (by kernel_rfl) (by kernel_rfl) (by kernel_rfl)) ?_
  intro W base args ds gs before hval0 hW hcnd hsz0 _
  have hval : ∀ (j : Nat) t v, Try.f3.params[j]? = some t → args[j]? = some v → Value.okWide Try.prog W .any base t v := hval0
  have hW' := hW
  obtain ⟨p, q, hA0, hV, rfl, hfz, hnd⟩ := hW
  have hA : DataW.TrodAll enc Try.prog W 0 (fun _ => true) true Try.f3.params.toList args.toList ds p := hA0
  rw [Try.params3] at hA hval
  obtain ⟨v0, vs0, d0, ds0, p0, q0, hargs, rfl, rfl, h0, r0⟩ := trodAll_cons hA
  obtain ⟨v1, vs1, d1, ds1, p1, q1, rfl, rfl, rfl, h1, r1⟩ := trodAll_cons r0
  obtain ⟨v2, vs2, d2, ds2, p2, q2, rfl, rfl, rfl, h2, r2⟩ := trodAll_cons r1
  obtain ⟨rfl, rfl, rfl⟩ := trodAll_nil r2
  obtain rfl : args = #[v0, v1, v2] := by cases args; simp_all
  obtain ⟨rfl, rfl⟩ := trodVars_none hV
  obtain ⟨a0, rfl, rfl, rfl, w0⟩ := open_int Try.underlying3 (hval 0 3 v0 rfl rfl) h0
  obtain ⟨a1, rfl, rfl, rfl, w1⟩ := open_int Try.underlying3 (hval 1 3 v1 rfl rfl) h1
  obtain ⟨a2, rfl, rfl, rfl, w2⟩ := open_int Try.underlying3 (hval 2 3 v2 rfl rfl) h2
  clear hA0 hval0 hsz0
  refine (scrolls_any a0 a1 a2 W).mono fun e W' ⟨he, bel⟩ => ?_
  subst he
  exact ⟨_, rfl, _, _, _, [], _, [], hW', trodAll_mk1 (shut_bool Try.underlying4 _), (trodAll_cons_mk (shut_int Try.underlying3 w0) (trodAll_cons_mk (shut_int Try.underlying3 w1) (trodAll_cons_mk (shut_int Try.underlying3 w2) trodAll_mk0))), rfl, bel.frame _, fun h => by cases h⟩
theorem over : Rows.viewScrollsRow.holds Try.pinned (OpenSpec.ofChange Rows.viewScrollsSpec) :=
  OpenClaim.holds_of_wide 3 Try.f3 rfl rfl rfl rfl rfl rfl rfl ⟨rfl, rfl, rfl, rfl, rfl⟩ rfl rfl rfl rfl rfl (by kernel_rfl) Try.func3 (by kernel_rfl)
    (of_decide_eq_true (by kernel_rfl)) (by unfold Func.isWrapper; first | (rw [if_pos (by decide +kernel)]; kernel_rfl) | (rw [if_neg (by decide +kernel)]; exact ⟨rfl, rfl⟩))
    (fun os started H enc _ => lifted os started H enc)
end Go.Proofs.Ytflaekclhojhdaa.viewScrolls
namespace Go.Proofs.Ytflaekclhojhdaa
theorem viewScrolls_holds : Rows.ViewScrollsSaid := viewScrolls.over
#print axioms viewScrolls_holds
end Go.Proofs.Ytflaekclhojhdaa
