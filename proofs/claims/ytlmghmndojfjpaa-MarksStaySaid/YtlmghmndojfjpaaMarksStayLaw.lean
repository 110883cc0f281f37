/- MarksStay: a change and its inverse leave each mark that wasn't gone where it was; proved for every input, under no condition. -/
import Derived.Test.YtlmghmndojfjpaaRows
import Derived.Test.YtlmghmndojfjpaaMarksKnown
import Derived.Test.YtlmghmndojfjpaaArgs
import Derived.Test.YtlmghmndojfjpaaPlace
import Derived.WalkKit
import Derived.ProofKit
import Derived.OpenShut
import Derived.ChangeOld
import Derived.SizedLaws
namespace Go.Proofs.Ytlmghmndojfjpaa.marksStay
open Go.RowKit Go.Proofs.Ytlmghmndojfjpaa.Frm Go.Proofs.Ytlmghmndojfjpaa.Shf Go.Proofs.Ytlmghmndojfjpaa.Mk Go.Proofs.Ytlmghmndojfjpaa.Arg
set_option linter.unusedVariables false
set_option linter.unusedSimpArgs false

/-- The marks that the first i lines set. -/
def fs (z : Nat → Int) (i : Nat) : Nat → Option (Int × Int) := fun j => if 97 ≤ j ∧ j < 97 + i then some (z (j - 97), 0) else none
theorem fs_zero (z : Nat → Int) : fs z 0 = fun _ => none := by
  funext j; unfold fs; rw [if_neg (by omega)]
theorem fs_succ (z : Nat → Int) (i : Nat) : (fun j => if j = 97 + i then some (z i, 0) else fs z i j) = fs z (i + 1) := by
  funext j
  unfold fs
  by_cases e : j = 97 + i
  · subst e
    rw [if_pos rfl, if_pos (by omega), show 97 + i - 97 = i by omega]
  · rw [if_neg e]
    by_cases h : 97 ≤ j ∧ j < 97 + i
    · rw [if_pos h, if_pos (by omega)]
    · rw [if_neg h, if_neg (by omega)]
theorem fs_dom {z : Nat → Int} {n : Nat} (hn : n ≤ 20) (k : Nat) (hk : 256 ≤ k) : fs z n k = none := by unfold fs; rw [if_neg (by omega)]
theorem fs_bd {z : Nat → Int} {n : Nat} (hz : ∀ i, 0 ≤ z i ∧ z i ≤ 255) (k : Nat) (p : Int × Int) (h : fs z n k = some p) : 0 ≤ p.1 ∧ p.1 ≤ 255 := by
  unfold fs at h
  split at h
  · simp at h; subst h; exact hz _
  · cases h
theorem wrong_no {n : Int} (h : 0 ≤ n ∧ n ≤ 255) : wrongB n = false := by
  simp [wrongB]; omega

/-- Is a line gone? -/
def gone (l a o n : Int) : Bool := decide (a ≤ l) && decide (l < a + o) && decide (n ≤ l - a)
theorem shift_is {l a o n : Int} (ha : 0 ≤ a ∧ a ≤ 255) (ho : 0 ≤ o ∧ o ≤ 255) (hn : 0 ≤ n ∧ n ≤ 255) :
    shift l a o n = if l < a then (l, true) else if o ≤ l - a then (l + (n - o), true) else if l - a < n then (l, true) else (0, false) := by
  unfold shift
  rw [wrong_no ha, wrong_no ho, wrong_no hn]
  by_cases h : l < a
  · simp [h]
  · simp [h]
theorem bd_after {l a o n : Int} (hl : 0 ≤ l ∧ l ≤ 255) (ha : 0 ≤ a ∧ a ≤ 255) (ho : 0 ≤ o ∧ o ≤ 255) (hn : 0 ≤ n ∧ n ≤ 255) : -300 ≤ (shift l a o n).1 ∧ (shift l a o n).1 ≤ 600 := by
  rw [shift_is ha ho hn]
  repeat' split
  all_goals (simp only; omega)

/-- A change, and its inverse. -/
theorem there_back {l a o n : Int} (hl : 0 ≤ l ∧ l ≤ 255) (ha : 0 ≤ a ∧ a ≤ 255) (ho : 0 ≤ o ∧ o ≤ 255) (hn : 0 ≤ n ∧ n ≤ 255) :
    ((adj1 a o n (l, 0)).bind (adj1 a n o)) = if gone l a o n then none else some (l, 0) := by
  unfold adj1 gone
  simp only [shift_is ha ho hn]
  by_cases h1 : l < a
  · have h2 : ¬ (a ≤ l) := by omega
    simp [h1, h2, shift_is ha hn ho]
  · have h2 : a ≤ l := by omega
    by_cases h3 : o ≤ l - a
    · have h4 : ¬ (l < a + o) := by omega
      have h5 : ¬ (l + (n - o) < a) := by omega
      have h6 : n ≤ l + (n - o) - a := by omega
      have h7 : l + (n - o) + (o - n) = l := by omega
      simp [h1, h2, h3, h4, h5, h6, h7, shift_is ha hn ho]
    · have h4 : l < a + o := by omega
      by_cases h5 : l - a < n
      · have h6 : ¬ (n ≤ l - a) := by omega
        have h7 : l - a < o := by omega
        simp [h1, h2, h3, h4, h5, h6, h7, shift_is ha hn ho]
      · have h6 : n ≤ l - a := by omega
        simp [h1, h2, h3, h4, h5, h6]

theorem adj_dom {f : Nat → Option (Int × Int)} {a o m : Int} (h : ∀ k, 256 ≤ k → f k = none) (k : Nat) (hk : 256 ≤ k) : adj f a o m k = none := by
  unfold adj; rw [h k hk]; rfl
theorem adj_bd {n : Nat} {z : Nat → Int} {a o m : Int} (hz : ∀ i, 0 ≤ z i ∧ z i ≤ 255) (ha : 0 ≤ a ∧ a ≤ 255) (ho : 0 ≤ o ∧ o ≤ 255) (hm : 0 ≤ m ∧ m ≤ 255) (k : Nat) (p : Int × Int) (h : adj (fs z n) a o m k = some p) : -1099511627776 ≤ p.1 ∧ p.1 ≤ 1099511627776 := by
  unfold adj at h
  cases e : fs z n k with
  | none => rw [e] at h; cases h
  | some q =>
    rw [e] at h
    have hq := fs_bd hz k q e
    have hb := bd_after hq ha ho hm
    simp only [Option.bind_some, adj1] at h
    split at h
    · cases h; simp only; omega
    · cases h
theorem fs_at {z : Nat → Int} {n k : Nat} (h : k < n) : fs z n (97 + k) = some (z k, 0) := by
  unfold fs; rw [if_pos (by omega), show 97 + k - 97 = k by omega]

set_option maxHeartbeats 4000000 in
set_option maxRecDepth 100000 in
theorem law_any (A : Option Addr) (n c : Nat) (z : Nat → Int) (a o m : Int) (w : World) (hz : Bytes w A n c z) (ha0 : 0 ≤ a) (ha1 : a ≤ 255) (ho0 : 0 ≤ o) (ho1 : o ≤ 255) (hm0 : 0 ≤ m) (hm1 : m ≤ 255) :
    Calls Try.prog 5 #[.slice A n c, .int .u8 a, .int .u8 o, .int .u8 m] w fun e w' => e = .returned (.bool true) ∧ Below w.heap.size w w' := by
  have HZ := Lib.hid hz
  clear hz
  by_cases hn : 20 < n
  · go_enter Try.func5, Try.ntmps5
    go_wp2_with (go_at_call 8; refine (Mk.known_calls _).mono ?_; rintro e w1 ⟨rfl, hb⟩)
    go_ret
    exact ⟨rfl, hb⟩
  · have hn20 : n ≤ 20 := by omega
    go_enter Try.func5, Try.ntmps5
    go_wp2_with (go_at_call 8; refine (Mk.known_calls _).mono ?_; rintro e w1 ⟨rfl, hb⟩)
    refine (new_calls _).mono ?_
    rintro e w2 ⟨rfl, hA2, hO2⟩
    go_wp2
    have hs1 := hb.size
    have hb2 : Below w.heap.size w w2 := hb.trans (hO2.below (B := w.heap.size) hs1 (fun k h => h.elim))
    have hA2 : At w2 (w1.heap.size + 1) w1.heap.size (fs z 0) := by rw [fs_zero]; exact hA2
    go_loopw [10] (fun i wr => ∃ k : Nat, i = .int .i64 (k : Int) ∧ k ≤ n ∧ At wr (w1.heap.size + 1) w1.heap.size (fs z k) ∧ Below w.heap.size w wr) (fun i _ => n - (intOf i).toNat)
    case atStart => exact ⟨0, rfl, by omega, hA2, hb2⟩
    case round =>
      obtain ⟨k, rfl, hk, hA, hB⟩ := hrel
      by_cases hlt : k < n
      · obtain ⟨b, off, rfl, hbb, hcell⟩ : ∃ b off, A = some ⟨b, off, none⟩ ∧ b < w.heap.size ∧ ∀ i, i < n → w.cell? ⟨b, off + i, none⟩ = some (.int .u8 (z i)) := HZ.out.cells.resolve_left (by omega)
        have hck : wr.cell? ⟨b, off + k, none⟩ = some (.int .u8 (z k)) := (hB.cell (p := ⟨b, off + k, none⟩) hbb).trans (hcell k hlt)
        have hzk := HZ.out.bd k
        obtain ⟨hz0, hz1⟩ := hzk
        clear hcell
        go_wp2_with fail
        rw [show (97 + (k : Int)) = ((97 + k : Nat) : Int) by omega]
        refine (set_yes _ _ (fs z k) (97 + k) (z k, 0) _ hA (by simp [okName]; omega)).mono ?_
        rintro e w3 ⟨rfl, hA3, hO3⟩
        rw [fs_succ] at hA3
        have hb3 : Below w.heap.size w w3 := hB.trans (hO3.below hB.size (fun k hk => by have := hb.size; omega))
        go_wp2_with fail
        go_roundw
        case rel => exact ⟨k + 1, by first | rfl | (simp; done) | (simp; omega), by omega, hA3, hb3⟩
        case measure => first | (simp [intOf]; done) | (simp [intOf]; omega)
      · obtain rfl : k = n := by omega
        have hz' := HZ.out.bd
        have hfd := fs_dom (z := z) hn20
        go_wp2_with fail
        refine (adjust_calls _ _ (fs z k) a o m _ hA hfd (fun j p h => by have := fs_bd hz' j p h; omega)).mono ?_
        rintro e w3 ⟨rfl, hA3, hO3⟩
        have hb3 : Below w.heap.size w w3 := hB.trans (hO3.below hB.size (fun k hk => by have := hb.size; omega))
        go_wp2_with fail
        refine (adjust_calls _ _ (adj (fs z k) a o m) a m o _ hA3 (adj_dom hfd) (adj_bd hz' ⟨ha0, ha1⟩ ⟨ho0, ho1⟩ ⟨hm0, hm1⟩)).mono ?_
        rintro e w4 ⟨rfl, hA4, hO4⟩
        have hb4 : Below w.heap.size w w4 := hb3.trans (hO4.below hb3.size (fun k hk => by have := hb.size; omega))
        clear hA hB hA3 hb3 hO3 hO4 hA2 hO2 hb2
        go_wp2_with fail
        go_loopw [11] (fun i wr => ∃ j : Nat, i = .int .i64 (j : Int) ∧ j ≤ k ∧ At wr (w1.heap.size + 1) w1.heap.size (adj (adj (fs z k) a o m) a m o) ∧ Below w.heap.size w wr) (fun i _ => k - (intOf i).toNat)
        case atStart => exact ⟨0, rfl, by omega, hA4, hb4⟩
        case round =>
          obtain ⟨j, rfl, hj, hA, hB⟩ := hrel
          by_cases hlt2 : j < k
          · obtain ⟨b, off, rfl, hbb, hcell⟩ : ∃ b off, A = some ⟨b, off, none⟩ ∧ b < w.heap.size ∧ ∀ i, i < k → w.cell? ⟨b, off + i, none⟩ = some (.int .u8 (z i)) := HZ.out.cells.resolve_left (by omega)
            have hck : ∀ wx : World, Below w.heap.size w wx → wx.cell? ⟨b, off + j, none⟩ = some (.int .u8 (z j)) := fun wx hx => (hx.cell (p := ⟨b, off + j, none⟩) hbb).trans (hcell j hlt2)
            obtain ⟨hz0, hz1⟩ := hz' j
            clear hcell
            go_wp2_with fail
            rw [show (97 + (j : Int)) = ((97 + j : Nat) : Int) by omega]
            refine (get_calls _ _ _ (97 + j) _ hA (by omega)).mono ?_
            rintro e w5 ⟨rfl, hO5⟩
            have hb5 : Below w.heap.size w w5 := hB.trans (hO5.below hB.size (fun k hk => hk.elim))
            have hA5 : At w5 (w1.heap.size + 1) w1.heap.size (adj (adj (fs z k) a o m) a m o) := hA.of (hO5.block _ (heap_lt hA.box) (fun h => h)) (hO5.block _ hA.map.lt (fun h => h))
            have he : adj (adj (fs z k) a o m) a m o (97 + j) = if gone (z j) a o m then none else some (z j, 0) := by
              unfold adj
              rw [fs_at hlt2]
              exact there_back ⟨hz0, hz1⟩ ⟨ha0, ha1⟩ ⟨ho0, ho1⟩ ⟨hm0, hm1⟩
            rw [he]
            by_cases hg : gone (z j) a o m = true
            · rw [if_pos hg]
              have hb6 := hb5.alloc hb5.size (Obj.cells #[.int .i64 0, .int .i64 0] 37)
              have hc5 := hck _ hb6
              have hA6 : At (w5.alloc (Obj.cells #[.int .i64 0, .int .i64 0] 37)) (w1.heap.size + 1) w1.heap.size (adj (adj (fs z k) a o m) a m o) := hA5.of (Below.heap_alloc _ _ _ (heap_lt hA5.box)) (Below.heap_alloc _ _ _ hA5.map.lt)
              simp only [posOr, posV, Option.getD_none, Option.isSome_none, Bool.false_eq_true]
              obtain ⟨g1, g2, g3⟩ : a ≤ z j ∧ z j < a + o ∧ m ≤ z j - a := by simp [gone] at hg; omega
              go_wp2_with fail
              go_roundw
              case rel => exact ⟨j + 1, by first | rfl | (simp; done) | (simp; omega), by omega, hA6, hb6⟩
              case measure => first | (simp [intOf]; done) | (simp [intOf]; omega)
            · rw [if_neg hg]
              have hb6 := hb5.alloc hb5.size (Obj.cells #[.int .i64 (z j), .int .i64 0] 37)
              have hc5 := hck _ hb6
              have hA6 : At (w5.alloc (Obj.cells #[.int .i64 (z j), .int .i64 0] 37)) (w1.heap.size + 1) w1.heap.size (adj (adj (fs z k) a o m) a m o) := hA5.of (Below.heap_alloc _ _ _ (heap_lt hA5.box)) (Below.heap_alloc _ _ _ hA5.map.lt)
              simp only [posOr, posV, Option.getD_some, Option.isSome_some]
              have g : ¬ (a ≤ z j ∧ z j < a + o ∧ m ≤ z j - a) := by simp [gone] at hg; omega
              go_wp2_with fail
              all_goals try (go_roundw
                             case rel => exact ⟨j + 1, by first | rfl | (simp; done) | (simp; omega), by omega, hA6, hb6⟩
                             case measure => first | (simp [intOf]; done) | (simp [intOf]; omega))
          · obtain rfl : j = k := by omega
            go_wp2_with fail
            refine (place_calls _ _ _ (by omega) (by omega) (by omega) (by omega)).mono ?_
            rintro e w6 ⟨rfl, rfl⟩
            obtain ⟨p1, p2⟩ := place_bd a (n := 7) (by omega)
            go_wp2
            go_ret
            exact ⟨by first | rfl | (simp; done) | (simp [*]; done), hB⟩

theorem walk_any (w : World) {A : Option Addr} {n c : Nat} (hr : ∃ z, Bytes w A n c z) (a o m : Int) (ha : (Lit.int .u8 a).wf = true) (ho : (Lit.int .u8 o).wf = true) (hm : (Lit.int .u8 m).wf = true) :
    Calls Try.prog 5 #[.slice A n c, .int .u8 a, .int .u8 o, .int .u8 m] w fun e w' => e = .returned (.bool true) ∧ Below w.heap.size w w' := by
  obtain ⟨z, hz⟩ := hr
  obtain ⟨h1, h2⟩ := bounds_u8 ha
  obtain ⟨h3, h4⟩ := bounds_u8 ho
  obtain ⟨h5, h6⟩ := bounds_u8 hm
  exact law_any A n c z a o m w hz h1 h2 h3 h4 h5 h6

open Go.ChangeShapes Go.WideShapes Go.ChangeAt
open Go.ChangeMaps (open_string shut_string)
theorem own : ownKnob Try.prog.godebug = none := by kernel_rfl
theorem laidOut : laidOutB Try.prog = true := by kernel_rfl
set_option maxRecDepth 100000 in
theorem lifted (os : Os) (started : os.Started) (H : Type) (enc : TypeId × Value → H) :
    ReturnsInHanded {} Try.checked os 5 .any (Rows.marksStaySpec.pre6 enc Try.prog Try.f5 Rows.marksStayRow.domain false) (Rows.marksStaySpec.post enc Try.prog Try.f5 false true false false) := by
  refine returnsInHanded_of_change_sized (C := Try.checked) own started (by kernel_rfl) Try.func5
    (ChangeSpec.witness6 (enc := enc) (C := Try.checked) false ⟨#[], #[.slice none 0 0, .int .u8 0, .int .u8 0, .int .u8 0], []⟩ 8 (by kernel_rfl) (by kernel_rfl) (by kernel_rfl) (by kernel_rfl)) ?_
  intro W base args ds gs before hval0 hW hcnd hsz0 _
  have hsz : (DataW.weightsEach Try.prog (Try.f5.params.toList ++ Rows.marksStaySpec.plain.varTypes Try.prog) (ds ++ gs)).all (· ≤ reachBytes) = true := hsz0
  have hval : ∀ (j : Nat) t v, Try.f5.params[j]? = some t → args[j]? = some v → Value.okWide Try.prog W .any base t v := hval0
  have hW' := hW
  obtain ⟨p, q, hA0, hV, rfl, hfz, hnd⟩ := hW
  have hA : DataW.TrodAll enc Try.prog W 0 (fun _ => true) true Try.f5.params.toList args.toList ds p := hA0
  rw [Try.params5] at hA hval hsz
  obtain ⟨v0, vs0, d0, ds0, p0, q0, hargs, rfl, rfl, h0, r0⟩ := trodAll_cons hA
  obtain ⟨v1, vs1, d1, ds1, p1, q1, rfl, rfl, rfl, h1, r1⟩ := trodAll_cons r0
  obtain ⟨v2, vs2, d2, ds2, p2, q2, rfl, rfl, rfl, h2, r2⟩ := trodAll_cons r1
  obtain ⟨v3, vs3, d3, ds3, p3, q3, rfl, rfl, rfl, h3, r3⟩ := trodAll_cons r2
  obtain ⟨rfl, rfl, rfl⟩ := trodAll_nil r3
  obtain rfl : args = #[v0, v1, v2, v3] := by cases args; simp_all
  obtain ⟨rfl, rfl⟩ := trodVars_none hV
  obtain ⟨A0, n0, c0, rfl⟩ := okWide_slice Try.underlying32 (hval 0 32 v0 rfl rfl)
  have k0 := h0
  have lt0 : ∀ x ∈ p0, x.block < W.heap.size := by obtain ⟨m, hm⟩ := k0; exact DataW.trod_lt m _ _ _ hm
  have hr0 := bytes_arg Try.underlying32 h0
  obtain ⟨a1, rfl, rfl, rfl, w1⟩ := open_int Try.underlying5 (hval 1 5 v1 rfl rfl) h1
  obtain ⟨a2, rfl, rfl, rfl, w2⟩ := open_int Try.underlying5 (hval 2 5 v2 rfl rfl) h2
  obtain ⟨a3, rfl, rfl, rfl, w3⟩ := open_int Try.underlying5 (hval 3 5 v3 rfl rfl) h3
  clear hA0 hval0 hsz0
  refine (walk_any W hr0 _ _ _ w1 w2 w3).mono fun e W' ⟨he, bel⟩ => ?_
  subst he
  exact ⟨_, rfl, _, _, _, [], _, [], hW', trodAll_mk1 (shut_bool Try.underlying4 _), (trodAll_cons_mk (Below.trod laidOut (by kernel_rfl) (of_decide_eq_true (by kernel_rfl)) k0 bel lt0) (trodAll_cons_mk (shut_int Try.underlying5 w1) (trodAll_cons_mk (shut_int Try.underlying5 w2) (trodAll_cons_mk (shut_int Try.underlying5 w3) trodAll_mk0)))), rfl, bel.frame _, fun h => by cases h⟩
theorem over : Rows.marksStayRow.holds Try.pinned (OpenSpec.ofChange Rows.marksStaySpec) :=
  OpenClaim.holds_of_wide 5 Try.f5 rfl rfl rfl rfl rfl rfl rfl ⟨rfl, rfl, rfl, rfl, rfl⟩ rfl rfl rfl rfl rfl (by kernel_rfl) Try.func5 (by kernel_rfl)
    (of_decide_eq_true (by kernel_rfl)) (by unfold Func.isWrapper; first | (rw [if_pos (by decide +kernel)]; kernel_rfl) | (rw [if_neg (by decide +kernel)]; exact ⟨rfl, rfl⟩))
    (fun os started H enc _ => lifted os started H enc)
end Go.Proofs.Ytlmghmndojfjpaa.marksStay
namespace Go.Proofs.Ytlmghmndojfjpaa
theorem marksStay_holds : Rows.MarksStaySaid := marksStay.over
#print axioms marksStay_holds
end Go.Proofs.Ytlmghmndojfjpaa
