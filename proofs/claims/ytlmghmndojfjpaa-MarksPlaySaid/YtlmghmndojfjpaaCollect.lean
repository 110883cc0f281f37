/- slices.AppendSeq and slices.Collect at bytes, for whatever iterator keeps its word. -/
import Derived.Test.YtlmghmndojfjpaaKeysPos
import Derived.RangeFuncBox
import Derived.Maps.AppendAt
namespace Go.Proofs.Ytlmghmndojfjpaa.Keys
open Go.RowKit Go.Shelf Go.Proofs.Ytlmghmndojfjpaa.Frm Go.Proofs.Ytlmghmndojfjpaa.MapRaw
attribute [local go_sem] Oper.semAt_some
set_option linter.unusedVariables false
set_option linter.unusedSimpArgs false

theorem infoByte : (Try.prog.info? 5).map (fun i => (i.zero, i.size, i.bytes)) = some (some (.int .u8 0), 1, 1) := by kernel_rfl

def enc8 (k : Nat) : Value := .int .u8 (k : Int)

set_option maxRecDepth 100000 in
set_option maxHeartbeats 2000000 in
theorem appendSeq_in (n : Nat) (hn : 3 ≤ n) (g : Nat) (lb : Array Value) (eg : ∀ args w, (callFunc g args).run Try.prog w = .ok (.enter g args) w) (S Sp : List Nat → Prop) (w : World)
    (hseq : SeqStopsK Fence.wide (n - 1) Try.prog g lb (fun k : Nat => #[.int .u8 (k : Int)]) (Kp w.heap.size) S Sp 256 w) :
    CallsIn Fence.wide n Try.prog 29 #[.slice none 0 0, .func (.func g) #[] lb] w fun e W' => ∃ v ss, e = .returned v ∧ S ss ∧ W'.ownsRow w.heap.size 5 1 v ss.length (ss.map enc8) ∧ Below w.heap.size w W' := by
  have h1 : 1 ≤ n := by omega
  obtain ⟨i0, hi, hz0, hz1, hz2⟩ := info_parts infoByte
  refine callsIn_of_wp_marks Try.func29 rfl trivial ?_ rfl
  simp only [Try.ntmps29, List.size_toArray, List.length_cons, List.length_nil, Nat.reduceAdd, Nat.reduceSub, Array.replicate_succ, Array.replicate_zero, List.push_toArray, List.append_toArray, List.nil_append, List.cons_append]
  gi_wp2
  have bO := Boxed.new w 32 (.slice none 0 0)
  have hB0 : Below w.heap.size w (w.alloc (.cells #[.slice none 0 0] 32)) := (Below.refl _ w).alloc (Nat.le_refl _) _
  refine wpIn_rangeFunc_ownG rfl h1 (gf := g) (lb := lb) rfl trivial eg hseq kp_t (kp_b (by simp)) hB0 (fun _ => rfl)
    (fun pre W => (∃ v, Boxed W w.heap.size 32 v ∧ W.ownsRow w.heap.size 5 1 v pre.length (pre.map enc8) ∧ (v = .slice none 0 0 ↔ pre = [])) ∧ Below w.heap.size w W)
    (fun _ _ _ => False)
    (OwnFrom.and (Own.from (holdsRow_own w.heap.size w.heap.size 32 5 1 (fun pre : List Nat => pre.length) (fun pre => pre.map enc8) (fun pre v => v = .slice none 0 0 ↔ pre = [])) _) (ownFrom_below (Nat.le_refl _) (by simp)))
    (fun _ _ _ _ _ hs _ _ => hs)
    ⟨⟨_, bO, World.ownsRow_nil _ _ _ _, by simp⟩, hB0⟩
    (fun x => { tmps := #[.slice none 0 0, .func (.func g) #[] lb, .pointer (some ⟨w.heap.size, 0, none⟩), undef, .slice none 0 0, .int .u8 (x : Int), .func (.func g) #[] lb, .int .u8 (x : Int), undef, undef, undef, undef, undef], defers := [] }) ?assign ?body ?done ?stop
  case assign =>
    intro l x W K hK
    gi_wp2
    exact hK
  case body =>
    rintro l pre x W ⟨⟨v, hv, hrow, hnil⟩, hB⟩ hlt
    have hc := hv.cell
    gi_wp2_with (gi_at_builtin; refine wpListIn_append_own _ rfl _ _ 32 rfl w.heap.size 5 i0 (.int .u8 0) 1 1 Try.underlying32 hi hz0 hz1 hz2 rfl (by decide) _ _ _ rfl (hrow.alloc _) ⟨W.heap.size, 0, none⟩ 1 1 [.int .u8 (x : Int)] rfl rfl (cell_one_new _ _ _) (by simp [Value.oneCell']) (by unfold maxLen; omega) (by omega) (by have := hB.size; simp; omega) ?_; intro v' w1 hown' hgrow _; obtain ⟨g', cap', rfl⟩ := ownsRow_succ hown'; obtain ⟨hv1, hv2, hr2, hk2, hb2⟩ := hv.appended (by decide) hrow hB.size (Nat.le_refl _) hown' hgrow; have hc1 := hv1.cell; have hf1 := hv1.frozen)
    exact ⟨hk2.from _, ⟨hb2, hk2.walks⟩, ⟨_, hv2, by simpa [enc8] using hr2, by simp⟩, hB.trans hb2⟩
  case done =>
    rintro D ys W hD hS ⟨⟨v, hv, hrow, hnil⟩, hB⟩ hK
    have hc := hv.cell
    gi_wp2
    refine ⟨by simp, .inl ⟨_, _, rfl, run_takeDeferred hK, ?_⟩⟩
    exact ⟨_, results_tmp rfl _ _ _, v, ys, rfl, hS, ownsRow_putObj hrow _ hK rfl, hB.trans (belowK_b (w := w) (Nat.le_refl _) W D _ _ (by simp at hD; omega) hK rfl rfl)⟩
  case stop =>
    rintro D c pre W _ _ h _
    exact h.elim

set_option maxHeartbeats 1000000 in
theorem collect_calls (g : Nat) (lb : Array Value) (eg : ∀ args w, (callFunc g args).run Try.prog w = .ok (.enter g args) w) (S Sp : List Nat → Prop) (w : World)
    (hseq : SeqStopsK Fence.wide 2 Try.prog g lb (fun k : Nat => #[.int .u8 (k : Int)]) (Kp w.heap.size) S Sp 256 w) :
    Calls Try.prog 26 #[.func (.func g) #[] lb] w fun e W' => ∃ v ss, e = .returned v ∧ S ss ∧ W'.ownsRow w.heap.size 5 1 v ss.length (ss.map enc8) ∧ Below w.heap.size w W' := by
  go_enter Try.func26, Try.ntmps26
  go_wp2_with (go_at_call 29; refine (callsIn_wide.1 (appendSeq_in 3 (by omega) g lb eg S Sp _ hseq)).mono ?_; rintro e w' ⟨v, ss, rfl, hS, hrow, hb⟩)
  go_ret
  exact ⟨v, ss, rfl, hS, hrow, hb⟩
#print axioms collect_calls
end Go.Proofs.Ytlmghmndojfjpaa.Keys
