/- MarksNames: which names a mark may have, and that those that are set are told in order, each once; proved for every input, under no condition. -/
import Derived.Test.YtlmghmndojfjpaaRows
import Derived.Test.YtlmghmndojfjpaaMarksKnown
import Derived.Test.YtlmghmndojfjpaaM2
import Derived.Test.YtlmghmndojfjpaaArgs
import Derived.Deep.DeepCutAuto
import Derived.Deep.QuietTactic
import Derived.BigQuiet
import Derived.IntWalk
import Derived.Deep.CutBlock
import Derived.WalkKit
import Derived.ProofKit
import Derived.OpenShut
import Derived.ChangeOld
import Derived.SizedLaws
namespace Go.Proofs.Ytlmghmndojfjpaa.marksNames
open Go.RowKit Go.Shelf Go.Proofs.Ytlmghmndojfjpaa.MapRaw Go.Proofs.Ytlmghmndojfjpaa.Frm Go.Proofs.Ytlmghmndojfjpaa.Mk Go.Proofs.Ytlmghmndojfjpaa.Mf Go.Proofs.Ytlmghmndojfjpaa.Arg Go.Proofs.Ytlmghmndojfjpaa.Keys
set_option linter.unusedVariables false
set_option linter.unusedSimpArgs false
attribute [local go_sem ↓] Go.wp_at_zero Go.wp_at_succ

def Oks (f : Nat → Option (Int × Int)) : Prop := ∀ j, (f j).isSome = true → okName j = true
theorem oks_set {f : Nat → Option (Int × Int)} (h : Oks f) (k : Nat) (p : Int × Int) : Oks (setM f k p) := by
  unfold setM
  split
  · rename_i hk
    intro j hj
    unfold updM at hj
    split at hj
    · rename_i e; rw [e]; exact hk
    · exact h j hj
  · exact h
theorem get_set {f : Nat → Option (Int × Int)} (h : Oks f) (k : Nat) (p : Int × Int) : setM f k p k = if okName k then some p else none := by
  unfold setM
  cases hk : okName k with
  | true => simp [updM]
  | false =>
    cases hf : f k with
    | none => simp [hf]
    | some q =>
      have := h k (by rw [hf]; rfl)
      rw [hk] at this; cases this

set_option maxHeartbeats 4000000 in
set_option maxRecDepth 100000 in
theorem law_any (A : Option Addr) (n c : Nat) (z : Nat → Int) (w : World) (hz : Bytes w A n c z) :
    Calls Try.prog 7 #[.slice A n c] w fun e w' => e = .returned (.bool true) ∧ Below w.heap.size w w' := by
  have HZ := Lib.hid hz
  clear hz
  by_cases hn : 60 < n
  · go_enter Try.func7, Try.ntmps7
    go_wp2_with (go_at_call 8; refine (Mk.known_calls _).mono ?_; rintro e w1 ⟨rfl, hb⟩)
    go_ret
    exact ⟨rfl, hb⟩
  · go_enter Try.func7, Try.ntmps7
    go_wp2_with (go_at_call 8; refine (Mk.known_calls _).mono ?_; rintro e w1 ⟨rfl, hb⟩)
    refine (start_m2 hb).mono ?_
    rintro e w2 ⟨B, M, rfl, hS⟩
    have HS := Lib.hid hS
    clear hS hb
    go_wp2_with fail
    go_loopw [5, 6, 7, 8] (fun i _ _ _ wr => ∃ (k : Nat) (f : Nat → Option (Int × Int)), i = .int .i64 (k : Int) ∧ k ≤ n ∧ M2 w wr B M f w2.heap.size f [] ∧ Oks f) (fun i _ _ _ _ => n - (intOf i).toNat)
    case atStart => exact ⟨0, _, rfl, by omega, HS.out, fun j h => by cases h⟩
    case round =>
      obtain ⟨k, f, rfl, hk, hS, hok⟩ := hrel
      clear HS
      by_cases hlt : k < n
      · obtain ⟨b, off, rfl, hbb, hcell⟩ : ∃ b off, A = some ⟨b, off, none⟩ ∧ b < w.heap.size ∧ ∀ i, i < n → w.cell? ⟨b, off + i, none⟩ = some (.int .u8 (z i)) := HZ.out.cells.resolve_left (by omega)
        obtain ⟨x, hx⟩ := Int.eq_ofNat_of_zero_le (HZ.out.bd k).1
        have hx1 := (HZ.out.bd k).2
        have hc0 := hcell k hlt
        rw [hx] at hx1 hc0
        clear hcell hx
        have hx256 : x < 256 := by omega
        clear hx1
        have hc1 : ∀ wx, Below w.heap.size w wx → wx.cell? ⟨b, off + k, none⟩ = some (.int .u8 (x : Int)) := fun wx hb => (hb.cell (p := ⟨b, off + k, none⟩) hbb).trans hc0
        have hcr := hc1 wr hS.bel
        have HC := Lib.hid hc1
        have HS := Lib.hid hS
        have HO := Lib.hid hok
        clear hc1 hc0 hS hok
        go_upto_region 9 with (fail)
        go_cut [6] (fun s6 wx => wr = wx ∧ s6 = .bool (okName x))
        case first =>
          rcases (show (x < 96) ∨ (x = 96) ∨ (97 ≤ x ∧ x ≤ 122) ∨ (122 < x) by omega) with h | h | ⟨h1, h2⟩ | h
          · have e1 : okName x = false := by simp [okName]; omega
            have i1 : ¬ (97 : Int) ≤ (x : Int) := by omega
            have i2 : ((x : Int) == 96) = false := by rw [beq_eq_false_iff_ne]; omega
            clear h
            go_wp2_with fail
            go_meet
            exact ⟨rfl, by rw [e1]⟩
          · have e1 : okName x = true := by simp [okName]; omega
            have i1 : ¬ (97 : Int) ≤ (x : Int) := by omega
            have i2 : ((x : Int) == 96) = true := by rw [beq_iff_eq]; omega
            clear h
            go_wp2_with fail
            go_meet
            exact ⟨rfl, by rw [e1]⟩
          · have e1 : okName x = true := by simp [okName]; omega
            have i1 : (97 : Int) ≤ (x : Int) := by omega
            have i2 : (x : Int) ≤ 122 := by omega
            clear h1 h2
            go_wp2_with fail
            go_meet
            exact ⟨rfl, by rw [e1]⟩
          · have e1 : okName x = false := by simp [okName]; omega
            have i1 : (97 : Int) ≤ (x : Int) := by omega
            have i3 : ¬ (x : Int) ≤ 122 := by omega
            have i2 : ((x : Int) == 96) = false := by rw [beq_eq_false_iff_ne]; omega
            clear h
            go_wp2_with fail
            go_meet
            exact ⟨rfl, by rw [e1]⟩
        case rest =>
          obtain ⟨rfl, rfl⟩ := hcut
          obtain ⟨bb, hbq⟩ : ∃ bb, okName x = bb := ⟨_, rfl⟩
          have hPS : ∀ w' f g fs, M2 w w' B M f w2.heap.size g fs → Calls Try.prog 12 #[.pointer (some ⟨B, 0, none⟩), .int .u8 (x : Int), .agg #[.int .i64 (k : Int), .int .i64 0]] w' fun e w'' => e = .returned (.bool bb) ∧ M2 w w'' B M (setM f x (k, 0)) w2.heap.size g fs := fun w' f g fs h => by have := pset_m2 x (k, 0) w' h hx256; rw [hbq] at this; exact this
          have hDS : ∀ w' f g fs, M2 w w' B M f w2.heap.size g fs → Calls Try.prog 13 #[.pointer (some ⟨w2.heap.size, 0, none⟩), .int .u8 (x : Int), .agg #[.int .i64 (k : Int), .int .i64 0]] w' fun e w'' => e = .returned (.bool bb) ∧ M2 w w'' B M f w2.heap.size (setM g x (k, 0)) fs := fun w' f g fs h => by have := dset_m2 x (k, 0) w' h hx256; rw [hbq] at this; exact this
          have hg : setM f x (k, 0) x = if bb then some ((k : Int), (0 : Int)) else none := by have := get_set HO.out x ((k : Int), (0 : Int)); rw [hbq] at this; exact this
          have HO2 := Lib.hid (oks_set HO.out x ((k : Int), (0 : Int)))
          have HPS := Lib.hid hPS
          have HDS := Lib.hid hDS
          have HG := Lib.hid hg
          have hbn : (bb != bb) = false := by cases bb <;> rfl
          rw [hbq]
          clear hPS hDS hg hbq
          have i1 : (0 : Int) ≤ (k : Int) := by omega
          have i2 : (k : Int) < (n : Int) := by omega
          go_wp2_with fail
          refine (HPS.out _ _ _ _ HS.out).mono ?_
          rintro e w3 ⟨rfl, hS3⟩
          have hc3 := HC.out w3 hS3.bel
          have HS3 := Lib.hid hS3
          clear hS3
          go_wp2_with fail
          refine (HDS.out _ _ _ _ HS3.out).mono ?_
          rintro e w4 ⟨rfl, hS4⟩
          have hc4 := HC.out w4 hS4.bel
          have HS4 := Lib.hid hS4
          clear hS4
          go_wp2_with fail
          refine (pget_m2 x _ HS4.out hx256).mono ?_
          rintro e w5 ⟨rfl, hS5⟩
          rw [HG.out]
          cases bb with
          | true =>
            simp only [if_true, posOr, posV, Option.getD_some, Option.isSome_some]
            have HS5 := Lib.hid (hS5.alloc #[.int .i64 (k : Int), .int .i64 0] 37)
            clear hS5
            go_wp2_with fail
            go_roundw
            case rel => exact ⟨k + 1, _, by first | rfl | (simp; done) | (simp; omega), by omega, HS5.out.sel (by simp), HO2.out⟩
            case measure => first | (simp [intOf]; done) | (simp [intOf]; omega)
          | false =>
            simp only [Bool.false_eq_true, if_false, posOr, posV, Option.getD_none, Option.isSome_none]
            have HS5 := Lib.hid (hS5.alloc #[.int .i64 0, .int .i64 0] 37)
            clear hS5
            go_wp2_with fail
            go_roundw
            case rel => exact ⟨k + 1, _, by first | rfl | (simp; done) | (simp; omega), by omega, HS5.out.sel (by simp), HO2.out⟩
            case measure => first | (simp [intOf]; done) | (simp [intOf]; omega)
      · have g4 : ¬ (k : Int) < (n : Int) := by omega
        have HS := Lib.hid hS
        clear hS hok
        go_wp2_with fail
        refine (Mf.names_all B M f _ HS.out.reg).mono ?_
        rintro e w3 ⟨v, rfl, hrow, hb3⟩
        obtain ⟨A3, c3, rfl, _, hc3, hm3, hnl3, _, hs3⟩ := row_shape hrow
        unfold maxLen at hm3
        have HS3 := Lib.hid (HS.out.no (Only.of_below hb3))
        have HROW := Lib.hid hrow
        have HS3s := Lib.hid hs3
        have hN256 : (Mk.names f).length ≤ 256 := Ins.nms_length _
        obtain ⟨N, hN⟩ : ∃ N, (Mk.names f).length = N := ⟨_, rfl⟩
        rw [hN] at hc3 hN256 ⊢
        have HN := Lib.hid hN
        clear hrow hb3 hs3 hnl3 hN
        go_wp2_with fail
        go_loopw [10] (fun i wr => ∃ j : Nat, i = .int .i64 ((j : Int) + 1) ∧ j ≤ N ∧ Only No w3 wr) (fun i _ => N + 1 - (intOf i).toNat)
        case atStart => exact ⟨0, rfl, by omega, Only.refl _ _⟩
        case round =>
          obtain ⟨j, rfl, hj, hO⟩ := hrel
          by_cases hjN : j + 1 < N
          · have hl : j + 1 < (Mk.names f).length := by have := HN.out; omega
            obtain ⟨g, rfl⟩ := HS3s.out (by omega)
            have hrw := row_only HROW.out hO (fun _ _ h => h)
            have hx : (Mk.names f)[j]? = some ((Mk.names f)[j]'(by omega)) := List.getElem?_eq_getElem (by omega)
            have hy : (Mk.names f)[j + 1]? = some ((Mk.names f)[j + 1]'hl) := List.getElem?_eq_getElem hl
            have hlt2 : ((Mk.names f)[j]'(by omega)) < ((Mk.names f)[j + 1]'hl) := List.pairwise_iff_getElem.1 (Ins.nms_pairwise (has f)) j (j + 1) (by rw [← names_nms]; omega) (by rw [← names_nms]; exact hl) (by omega)
            have c1 := hrw.cellAt j (by omega)
            have c2 := hrw.cellAt (j + 1) (by omega)
            rw [List.getElem?_map, hx] at c1
            rw [List.getElem?_map, hy] at c2
            generalize ((Mk.names f)[j]'(by omega)) = x at *
            generalize ((Mk.names f)[j + 1]'hl) = y at *
            change wr.cell? ⟨g, j, none⟩ = some (.int .u8 (x : Int)) at c1
            change wr.cell? ⟨g, j + 1, none⟩ = some (.int .u8 (y : Int)) at c2
            have HO := Lib.hid hO
            clear hrw hx hy hl hO
            have i1 : ¬ (y : Int) ≤ (x : Int) := by omega
            have i2 : (0 : Int) ≤ (j : Int) := by omega
            have i3 : (j : Int) + 1 < (N : Int) := by omega
            have i4 : (j : Int) < (N : Int) := by omega
            have i5 : (0 : Int) ≤ (j : Int) + 1 := by omega
            have i6 : ((j : Int) + 1).toNat = j + 1 := by omega
            have i7 : IntKind.i64.wrap ((j : Int) + 1 - 1) = (j : Int) := by rw [show (j : Int) + 1 - 1 = (j : Int) by omega]; exact IntWalk.i64_in _ (by omega)
            have i8 : IntKind.i64.wrap (j : Int) = (j : Int) := IntWalk.i64_in _ (by omega)
            go_wp2_with fail
            go_region
            go_wp2_with fail
            go_roundw
            case rel => exact ⟨j + 1, by first | rfl | (simp; done) | (simp; omega), by omega, by first | exact HO.out.drewN _ | exact HO.out.drew | exact HO.out⟩
            case measure => first | (simp [intOf]; done) | (simp [intOf]; omega)
          · have i1 : ¬ (j : Int) + 1 < (N : Int) := by omega
            obtain ⟨v1, v2, q, hbox, hn1, _, _, _⟩ := HS3.out.r.ex
            have p0 : wr.cell? ⟨w2.heap.size, 0, none⟩ = some v1 := (cell_block (hO.block w2.heap.size (heap_lt hbox) (fun h => h)) 0).trans (two_cells hbox).1
            have s1 := run_string_row (src := 32) (dst := 9) Try.underlying32 Try.underlying9 (row_only hn1 (hO.drew) (fun _ _ h => h))
            have s2 := run_string_row (src := 32) (dst := 9) Try.underlying32 Try.underlying9 (row_only HROW.out (hO.drew) (fun _ _ h => h))
            obtain ⟨A1, c1, rfl, _, _, _, _, _, _⟩ := row_shape hn1
            rw [HN.out] at s1 s2 p0
            have HB := Lib.hid (HS3.out.bel.trans (hO.drew.below (B := w.heap.size) HS3.out.bel.size (fun k h => h.elim)))
            clear hbox hn1 hO
            go_wp2_with fail
            go_region
            all_goals (go_wp2_with fail; go_ret)
            all_goals exact ⟨by first | rfl | (simp; done), HB.out⟩

theorem walk_any (w : World) {A : Option Addr} {n c : Nat} (hr : ∃ z, Bytes w A n c z) :
    Calls Try.prog 7 #[.slice A n c] w fun e w' => e = .returned (.bool true) ∧ Below w.heap.size w w' := by
  obtain ⟨z, hz⟩ := hr
  exact law_any A n c z w hz

open Go.ChangeShapes Go.WideShapes Go.ChangeAt
open Go.ChangeMaps (open_string shut_string)
theorem own : ownKnob Try.prog.godebug = none := by kernel_rfl
theorem laidOut : laidOutB Try.prog = true := by kernel_rfl
set_option maxRecDepth 100000 in
theorem lifted (os : Os) (started : os.Started) (H : Type) (enc : TypeId × Value → H) :
    ReturnsInHanded {} Try.checked os 7 .any (Rows.marksNamesSpec.pre6 enc Try.prog Try.f7 Rows.marksNamesRow.domain false) (Rows.marksNamesSpec.post enc Try.prog Try.f7 false true false false) := by
  refine returnsInHanded_of_change_sized (C := Try.checked) own started (by kernel_rfl) Try.func7
    (ChangeSpec.witness6 (enc := enc) (C := Try.checked) false ⟨#[], #[.slice none 0 0], []⟩ 8 (by kernel_rfl) (by kernel_rfl) (by kernel_rfl) (by kernel_rfl)) ?_
  intro W base args ds gs before hval0 hW hcnd hsz0 _
  have hsz : (DataW.weightsEach Try.prog (Try.f7.params.toList ++ Rows.marksNamesSpec.plain.varTypes Try.prog) (ds ++ gs)).all (· ≤ reachBytes) = true := hsz0
  have hval : ∀ (j : Nat) t v, Try.f7.params[j]? = some t → args[j]? = some v → Value.okWide Try.prog W .any base t v := hval0
  have hW' := hW
  obtain ⟨p, q, hA0, hV, rfl, hfz, hnd⟩ := hW
  have hA : DataW.TrodAll enc Try.prog W 0 (fun _ => true) true Try.f7.params.toList args.toList ds p := hA0
  rw [Try.params7] at hA hval hsz
  obtain ⟨v0, vs0, d0, ds0, p0, q0, hargs, rfl, rfl, h0, r0⟩ := trodAll_cons hA
  obtain ⟨rfl, rfl, rfl⟩ := trodAll_nil r0
  obtain rfl : args = #[v0] := by cases args; simp_all
  obtain ⟨rfl, rfl⟩ := trodVars_none hV
  obtain ⟨A0, n0, c0, rfl⟩ := okWide_slice Try.underlying32 (hval 0 32 v0 rfl rfl)
  have k0 := h0
  have lt0 : ∀ x ∈ p0, x.block < W.heap.size := by obtain ⟨m, hm⟩ := k0; exact DataW.trod_lt m _ _ _ hm
  have hr0 := bytes_arg Try.underlying32 h0
  clear hA0 hval0 hsz0
  refine (walk_any W hr0).mono fun e W' ⟨he, bel⟩ => ?_
  subst he
  exact ⟨_, rfl, _, _, _, [], _, [], hW', trodAll_mk1 (shut_bool Try.underlying4 _), (trodAll_cons_mk (Below.trod laidOut (by kernel_rfl) (of_decide_eq_true (by kernel_rfl)) k0 bel lt0) trodAll_mk0), rfl, bel.frame _, fun h => by cases h⟩
theorem over : Rows.marksNamesRow.holds Try.pinned (OpenSpec.ofChange Rows.marksNamesSpec) :=
  OpenClaim.holds_of_wide 7 Try.f7 rfl rfl rfl rfl rfl rfl rfl ⟨rfl, rfl, rfl, rfl, rfl⟩ rfl rfl rfl rfl rfl (by kernel_rfl) Try.func7 (by kernel_rfl)
    (of_decide_eq_true (by kernel_rfl)) (by unfold Func.isWrapper; first | (rw [if_pos (by decide +kernel)]; kernel_rfl) | (rw [if_neg (by decide +kernel)]; exact ⟨rfl, rfl⟩))
    (fun os started H enc _ => lifted os started H enc)
end Go.Proofs.Ytlmghmndojfjpaa.marksNames
namespace Go.Proofs.Ytlmghmndojfjpaa
theorem marksNames_holds : Rows.MarksNamesSaid := marksNames.over
#print axioms marksNames_holds
end Go.Proofs.Ytlmghmndojfjpaa
