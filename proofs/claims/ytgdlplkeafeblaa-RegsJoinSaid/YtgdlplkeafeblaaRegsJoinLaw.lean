/- RegsJoin: two registers together are what the document says; proved for every input, under no condition. -/
import Derived.Test.YtgdlplkeafeblaaRows
import Derived.Test.YtgdlplkeafeblaaRegsKnown
import Derived.Test.YtgdlplkeafeblaaRefJoin
import Derived.Test.YtgdlplkeafeblaaArgs3
import Derived.Test.YtgdlplkeafeblaaPlace
import Derived.Deep.DeepCutAuto
import Derived.Deep.RegionHeld3
import Derived.WalkKit
import Derived.ProofKit
import Derived.OpenShut
import Derived.ChangeOld
import Derived.SizedLaws
namespace Go.Proofs.Ytgdlplkeafeblaa.regsJoin
open Go.RowKit Go.Shelf Go.Proofs.Ytgdlplkeafeblaa.MapRaw Go.Proofs.Ytgdlplkeafeblaa.Frm Go.Proofs.Ytgdlplkeafeblaa.Lns Go.Proofs.Ytgdlplkeafeblaa.Rg Go.Proofs.Ytgdlplkeafeblaa.Arg
set_option linter.unusedVariables false
set_option linter.unusedSimpArgs false

theorem keep {w w' : World} (ho : Only No w w') {p : Nat} {o : Obj} (h : w.heap[p]? = some o) : w'.heap[p]? = some o := (ho.block p (heap_lt h) (fun h => h)).trans h

theorem st2 {w : World} {p q : Nat} {a A b B x y : Value} {t : TypeId} (hpq : p ≠ q) (hp : w.heap[p]? = some (.cells #[a, A] t (0, 0))) (hq : w.heap[q]? = some (.cells #[b, B] t (0, 0))) :
    ((w.setCell ⟨p, 0, none⟩ x).setCell ⟨q, 0, none⟩ y).heap[p]? = some (.cells #[x, A] t (0, 0)) ∧ ((w.setCell ⟨p, 0, none⟩ x).setCell ⟨q, 0, none⟩ y).heap[q]? = some (.cells #[y, B] t (0, 0)) := by
  have h1 : (w.setCell ⟨p, 0, none⟩ x).heap[p]? = some (.cells #[x, A] t (0, 0)) := by simp [World.setCell, Array.getElem?_modify, hp]
  have h2 : (w.setCell ⟨p, 0, none⟩ x).heap[q]? = some (.cells #[b, B] t (0, 0)) := (Below.heap_setCell _ _ _ _ (fun e => hpq e.symm)).trans hq
  refine ⟨(Below.heap_setCell _ _ _ _ hpq).trans h1, ?_⟩
  simp [World.setCell, Array.getElem?_modify] at h2 ⊢
  simp [h2]

/-- Three registers in their cells. -/
structure Three (w : World) (p q g : Nat) (k k' j : Int) (A A' A2 : Option Addr) (n n' n2 c c' c2 : Nat) : Prop where
  fp : w.heap[p]? = some (.cells #[.int .i64 k, .slice A n c] 24 (0, 0))
  fq : w.heap[q]? = some (.cells #[.int .i64 k', .slice A' n' c'] 24 (0, 0))
  fg : w.heap[g]? = some (.cells #[.int .i64 j, .slice A2 n2 c2] 24 (0, 0))
section
variable {w w' : World} {p q g : Nat} {k k' j : Int} {A A' A2 : Option Addr} {n n' n2 c c' c2 : Nat}
theorem Three.no (h : Three w p q g k k' j A A' A2 n n' n2 c c' c2) (ho : Only No w w') : Three w' p q g k k' j A A' A2 n n' n2 c c' c2 := ⟨keep ho h.fp, keep ho h.fq, keep ho h.fg⟩
theorem Three.cells (h : Three w p q g k k' j A A' A2 n n' n2 c c' c2) : w.cell? ⟨p, 0, none⟩ = some (.int .i64 k) ∧ w.cell? ⟨p, 1, none⟩ = some (.slice A n c) ∧ w.cell? ⟨q, 0, none⟩ = some (.int .i64 k') ∧ w.cell? ⟨q, 1, none⟩ = some (.slice A' n' c') ∧ w.cell? ⟨g, 0, none⟩ = some (.int .i64 j) ∧ w.cell? ⟨g, 1, none⟩ = some (.slice A2 n2 c2) := by
  obtain ⟨p0, p1, _, _⟩ := reg_cells h.fp
  obtain ⟨q0, q1, _, _⟩ := reg_cells h.fq
  obtain ⟨g0, g1, _, _⟩ := reg_cells h.fg
  exact ⟨p0, p1, q0, q1, g0, g1⟩
end

set_option maxHeartbeats 8000000 in
set_option maxRecDepth 100000 in
theorem law_any (k : Int) (A : Option Addr) (n c : Nat) (L : List ByteArray) (k' : Int) (A' : Option Addr) (n' c' : Nat) (L' : List ByteArray) (w : World) (hL : Lines w A n c L) (hL' : Lines w A' n' c' L') (hf : Fit L) (hf' : Fit L')
    (hk0 : -9223372036854775808 ≤ k) (hk1 : k ≤ 9223372036854775807) (hk0' : -9223372036854775808 ≤ k') (hk1' : k' ≤ 9223372036854775807) :
    Calls Try.prog 3 #[.agg #[.int .i64 k, .slice A n c], .agg #[.int .i64 k', .slice A' n' c']] w fun e w' => e = .returned (.bool true) ∧ Below w.heap.size w w' := by
  obtain ⟨W, hW⟩ : ∃ W, (w.alloc (Obj.cells #[.int .i64 k, .slice A n c] 24)).alloc (Obj.cells #[.int .i64 k', .slice A' n' c'] 24) = W := ⟨_, rfl⟩
  have hO : Only No w W := by rw [← hW]; exact ((Only.refl _ w).alloc _).alloc _
  have hWs : W.heap.size = w.heap.size + 2 := by rw [← hW]; simp
  have f0 : W.heap[w.heap.size]? = some (.cells #[.int .i64 k, .slice A n c] 24 (0, 0)) := by
    rw [← hW]; exact (Below.heap_alloc _ _ _ (by simp)).trans (alloc_new w _)
  have f1 : W.heap[w.heap.size + 1]? = some (.cells #[.int .i64 k', .slice A' n' c'] 24 (0, 0)) := by
    rw [← hW]; exact alloc_at (by simp) _
  have hlen := hL.len
  have hlen' := hL'.len
  have H := Lib.hid hL
  have H' := Lib.hid hL'
  have F := Lib.hid hf
  have F' := Lib.hid hf'
  have HO := Lib.hid hO
  have HF0 := Lib.hid f0
  have HF1 := Lib.hid f1
  have HWs := Lib.hid hWs
  have HN := Lib.hid (And.intro hlen hlen')
  clear hL hL' hf hf' hO f0 f1 hWs hlen hlen'
  by_cases hb1 : 20 < n
  · have g1 : (20 : Int) < (n : Int) := by omega
    go_enter Try.func3, Try.ntmps3
    go_wp2_with (go_at_call 10; refine (known_calls _).mono ?_; rintro e w1 ⟨rfl, hb⟩; have hO1 : Only No W w1 := Only.of_below hb; (obtain ⟨x0, x1, _, _⟩ := reg_cells (keep hO1 HF0.out)); (obtain ⟨y0, y1, _, _⟩ := reg_cells (keep hO1 HF1.out)))
    go_ret
    exact ⟨rfl, (HO.out.trans' hO1).below_size⟩
  · have g1 : ¬ (20 : Int) < (n : Int) := by omega
    by_cases hb2 : 20 < n'
    · have g2 : (20 : Int) < (n' : Int) := by omega
      go_enter Try.func3, Try.ntmps3
      go_wp2_with (go_at_call 10; refine (known_calls _).mono ?_; rintro e w1 ⟨rfl, hb⟩; have hO1 : Only No W w1 := Only.of_below hb; (obtain ⟨x0, x1, _, _⟩ := reg_cells (keep hO1 HF0.out)); (obtain ⟨y0, y1, _, _⟩ := reg_cells (keep hO1 HF1.out)))
      go_ret
      exact ⟨rfl, (HO.out.trans' hO1).below_size⟩
    · have g2 : ¬ (20 : Int) < (n' : Int) := by omega
      go_enter Try.func3, Try.ntmps3
      go_upto_region 5 with (go_at_call 10; refine (known_calls _).mono ?_; rintro e w1 ⟨rfl, hb⟩; have hO1 : Only No W w1 := Only.of_below hb; (obtain ⟨x0, x1, _, _⟩ := reg_cells (keep hO1 HF0.out)); (obtain ⟨y0, y1, _, _⟩ := reg_cells (keep hO1 HF1.out)); have hs1 : w.heap.size + 1 < w1.heap.size := heap_lt (keep hO1 HF1.out); have hs2 : w.heap.size < w1.heap.size := heap_lt (keep hO1 HF0.out))
      go_cut [5, 6] (fun s5 s6 wx => ∃ p q : Nat, s5 = .pointer (some ⟨p, 0, none⟩) ∧ s6 = .pointer (some ⟨q, 0, none⟩) ∧ p ≠ q ∧ w.heap.size + 2 ≤ p ∧ w.heap.size + 2 ≤ q ∧ wx.heap[p]? = some (.cells #[.int .i64 k, .slice A n c] 24 (0, 0)) ∧ wx.heap[q]? = some (.cells #[.int .i64 k', .slice A' n' c'] 24 (0, 0)) ∧ Only No W wx)
      case first =>
        go_region
        all_goals (go_wp2_with fail; go_meet)
        all_goals (first
          | exact ⟨_, _, rfl, rfl, by omega, by have := HWs.out; have := hO1.size; omega, by have := HWs.out; have := hO1.size; omega, (Below.heap_alloc _ _ _ (by simp)).trans (alloc_new w1 _), alloc_at (by simp) _, ((hO1.alloc _).alloc _).drew⟩
          | exact ⟨_, _, rfl, rfl, by omega, by have := HWs.out; have := hO1.size; omega, by have := HWs.out; have := hO1.size; omega, alloc_at (by simp) _, (Below.heap_alloc _ _ _ (by simp)).trans (alloc_new w1 _), ((hO1.alloc _).alloc _).drew⟩)
      case rest =>
        obtain ⟨p, q, rfl, rfl, hpq, hp, hq, hfp, hfq, hOx⟩ := hcut
        obtain ⟨x0, x1, x2, x3⟩ := reg_cells (keep hOx HF0.out)
        obtain ⟨y0, y1, y2, y3⟩ := reg_cells (keep hOx HF1.out)
        obtain ⟨p0, p1, p2, p3⟩ := reg_cells hfp
        obtain ⟨q0, q1, q2, q3⟩ := reg_cells hfq
        have HP := Lib.hid (And.intro hfp (And.intro hfq hOx))
        clear hfp hfq hOx
        go_upto_region 6 with (fail)
        go_cut [] (fun wx => wx.heap[p]? = some (.cells #[.int .i64 (place k 3), .slice A n c] 24 (0, 0)) ∧ wx.heap[q]? = some (.cells #[.int .i64 (place k' 3), .slice A' n' c'] 24 (0, 0)) ∧ Only No W wx)
        case first =>
          go_region_with (first | (go_at_call_of 11 (Value.int .i64 k); refine (place_calls k 3 _ (by omega) (by omega) hk0 hk1).mono ?_; rintro e w' ⟨rfl, rfl⟩) | (go_at_call 11; refine (place_calls k' 3 _ (by omega) (by omega) hk0' hk1').mono ?_; rintro e w' ⟨rfl, rfl⟩))
          all_goals (go_wp2_with fail; go_meet)
          all_goals (
            obtain ⟨hfp, hfq, hOx⟩ := HP.out
            first
            | exact ⟨(st2 hpq hfp hfq).1, (st2 hpq hfp hfq).2, ((hOx.setCell (p := ⟨p, 0, none⟩) (.inl (by have := HWs.out; simp; omega)) _).setCell (p := ⟨q, 0, none⟩) (.inl (by have := HWs.out; simp; omega)) _).drew⟩
            | exact ⟨(st2 (Ne.symm hpq) hfq hfp).2, (st2 (Ne.symm hpq) hfq hfp).1, ((hOx.setCell (p := ⟨q, 0, none⟩) (.inl (by have := HWs.out; simp; omega)) _).setCell (p := ⟨p, 0, none⟩) (.inl (by have := HWs.out; simp; omega)) _).drew⟩)
        case rest =>
          clear x0 x1 x2 x3 y0 y1 y2 y3 p0 p1 p2 p3 q0 q1 q2 q3 HP
          obtain ⟨hfp, hfq, hOx⟩ := hcut
          obtain ⟨p0, p1, p2, p3⟩ := reg_cells hfp
          obtain ⟨q0, q1, q2, q3⟩ := reg_cells hfq
          have hl := H.out.only (HO.out.trans' hOx) (fun _ _ h => h.elim)
          have hl' := H'.out.only (HO.out.trans' hOx) (fun _ _ h => h.elim)
          have HP := Lib.hid (And.intro hfp (And.intro hfq hOx))
          have hz := fit_size F.out
          have hz' := fit_size F'.out
          obtain ⟨hn1, hn2⟩ := HN.out
          have z1 : sizeL L ≤ 4503599627370496 := by omega
          have z2 : sizeL L' ≤ 4503599627370496 := by omega
          have z3 : L.length ≤ 268435456 := by omega
          have z4 : L'.length ≤ 268435456 := by omega
          have HL := Lib.hid (And.intro hl hl')
          obtain ⟨r, hr⟩ : ∃ r : Reg, r = (place k 3, L) := ⟨_, rfl⟩
          obtain ⟨r', hr'⟩ : ∃ r' : Reg, r' = (place k' 3, L') := ⟨_, rfl⟩
          have e1 : r.1 = place k 3 := by rw [hr]
          have e2 : r'.1 = place k' 3 := by rw [hr']
          have e3 : r.2 = L := by rw [hr]
          have e4 : r'.2 = L' := by rw [hr']
          have hzj := sizeL_join r r'
          have hzj2 : sizeL (join r r').2 ≤ 4611686018427387904 := by rw [e3, e4] at hzj; omega
          rw [← e3] at z1 z3
          rw [← e4] at z2 z4
          have HE := Lib.hid (And.intro e1 (And.intro e2 (And.intro e3 e4)))
          clear hr hr' e1 e2 e3 e4 hfp hfq hOx hl hl' hz hz' hn1 hn2 hzj
          go_wp2_with fail
          refine (join_calls _ _ r r' _ ⟨A, n, c, by rw [HE.out.1], by rw [HE.out.2.2.1]; exact HL.out.1⟩ ⟨A', n', c', by rw [HE.out.2.1], by rw [HE.out.2.2.2]; exact HL.out.2⟩ z1 z2 z3 z4).mono ?_
          rintro e w3 ⟨u, rfl, ⟨A2, n2, c2, rfl, hl2⟩, hO3⟩
          generalize hj : join r r' = jr at *
          have HJ := Lib.hid hj
          clear hj
          have T := Lib.hid (Three.mk (g := w3.heap.size) (w := w3.alloc (.cells #[.int .i64 jr.1, .slice A2 n2 c2] 24)) (keep (hO3.alloc _) HP.out.1) (keep (hO3.alloc _) HP.out.2.1) (alloc_new w3 _))
          have hOw := (HP.out.2.2.trans' hO3).alloc (.cells #[.int .i64 jr.1, .slice A2 n2 c2] 24)
          have hlj := hl2.only ((Only.refl No w3).alloc (.cells #[.int .i64 jr.1, .slice A2 n2 c2] 24)) (fun _ _ h => h.elim)
          clear p0 p1 p2 p3 q0 q1 q2 q3
          obtain ⟨p0, p1, q0, q1, g0, g1⟩ := T.out.cells
          obtain ⟨W4, hW4⟩ : ∃ W4, w3.alloc (.cells #[.int .i64 jr.1, .slice A2 n2 c2] 24) = W4 := ⟨_, rfl⟩
          rw [hW4] at T p0 p1 q0 q1 g0 g1 hOw hlj
          have HOW := Lib.hid hOw
          have HLJ := Lib.hid hlj
          clear hOw hlj hO3 hl2
          have e5 : ((sizeL jr.2 : Nat) : Int) = ((sizeL jr.2 : Nat) : Int) := rfl
          clear e5
          go_wp2_with fail
          go_region_held3 (fun w' => w'.cell? ⟨p, 0, none⟩ = some (.int .i64 (place k 3)) ∧ w'.cell? ⟨p, 1, none⟩ = some (.slice A n c) ∧ w'.cell? ⟨q, 0, none⟩ = some (.int .i64 (place k' 3)) ∧ w'.cell? ⟨q, 1, none⟩ = some (.slice A' n' c') ∧ w'.cell? ⟨w3.heap.size, 0, none⟩ = some (.int .i64 jr.1) ∧ w'.cell? ⟨w3.heap.size, 1, none⟩ = some (.slice A2 n2 c2))
            (first | exact ⟨by assumption, by assumption, by assumption, by assumption, by assumption, by assumption⟩ | go_keep)
            (first
              | (go_at_call 15; refine (size_calls _ jr _ ⟨_, _, _, rfl, HLJ.out.only OJ.out (fun _ _ h => h.elim)⟩ hzj2).mono ?_; rintro e w7 ⟨rfl, hO7⟩; have OJ := Lib.hid (OJ.out.trans' hO7); have TT := Lib.hid (T.out.no OJ.out); (obtain ⟨k0, k1, k2, k3, k4, k5⟩ := TT.out.cells))
              | (go_at_call 16; refine (size5_calls _ _ _ jr.2 _ (HLJ.out.only OJ.out (fun _ _ h => h.elim)) hzj2).mono ?_; rintro e w7 ⟨rfl, rfl⟩)
              | (go_at_call 13; refine (reg_calls _ _ jr jr _ ⟨_, _, _, rfl, HLJ.out.only ((Only.refl No W4).drew.trans' hO5) (fun _ _ h => h.elim)⟩ ⟨_, _, _, rfl, hl5⟩).mono ?_; rintro e w6 ⟨rfl, hO6⟩; rw [decide_eq_true (rfl : jr = jr)]; have OJ := Lib.hid (((Only.refl No W4).drew.trans' hO5).trans' hO6); have TT := Lib.hid (T.out.no OJ.out); (obtain ⟨k0, k1, k2, k3, k4, k5⟩ := TT.out.cells))
              | (go_at_call 14; refine (rjoin_calls _ _ r r' _ ⟨A, n, c, by rw [HE.out.1], by rw [HE.out.2.2.1]; exact H.out.only (HO.out.trans' HOW.out.drew) (fun _ _ h => h.elim)⟩ ⟨A', n', c', by rw [HE.out.2.1], by rw [HE.out.2.2.2]; exact H'.out.only (HO.out.trans' HOW.out.drew) (fun _ _ h => h.elim)⟩ z1 z2 z3 z4).mono ?_; rintro e w5 ⟨u5, rfl, ⟨A5, n5, c5, rfl, hl5⟩, hO5⟩; rw [HJ.out] at hl5 ⊢; have TT := Lib.hid (T.out.no ((Only.refl No W4).drew.trans' hO5)); (obtain ⟨k0, k1, k2, k3, k4, k5⟩ := TT.out.cells)))
          all_goals (
            go_wp2_with fail
            go_ret
            exact ⟨rfl, ((HO.out.trans' HOW.out).trans' OJ.out).below_size⟩)

theorem walk_any (w : World) {k k' : Int} {A A' : Option Addr} {n c n' c' : Nat} (hr : ∃ L, Lines w A n c L ∧ Fit L) (hr' : ∃ L, Lines w A' n' c' L ∧ Fit L) (hk : (Lit.int .i64 k).wf = true) (hk' : (Lit.int .i64 k').wf = true) :
    Calls Try.prog 3 #[.agg #[.int .i64 k, .slice A n c], .agg #[.int .i64 k', .slice A' n' c']] w fun e w' => e = .returned (.bool true) ∧ Below w.heap.size w w' := by
  obtain ⟨L, hL, hf⟩ := hr
  obtain ⟨L', hL', hf'⟩ := hr'
  obtain ⟨h1, h2⟩ := bounds_i64 hk
  obtain ⟨h3, h4⟩ := bounds_i64 hk'
  exact law_any k A n c L k' A' n' c' L' w hL hL' hf hf' h1 h2 h3 h4

open Go.ChangeShapes Go.WideShapes Go.ChangeAt
open Go.ChangeMaps (open_string shut_string)
theorem own : ownKnob Try.prog.godebug = none := by kernel_rfl
theorem laidOut : laidOutB Try.prog = true := by kernel_rfl
set_option maxRecDepth 100000 in
theorem lifted (os : Os) (started : os.Started) (H : Type) (enc : TypeId × Value → H) :
    ReturnsInHanded {} Try.checked os 3 .any (Rows.regsJoinSpec.pre6 enc Try.prog Try.f3 Rows.regsJoinRow.domain false) (Rows.regsJoinSpec.post enc Try.prog Try.f3 false true false false) := by
  refine returnsInHanded_of_change_sized (C := Try.checked) own started (by kernel_rfl) Try.func3
    (ChangeSpec.witness6 (enc := enc) (C := Try.checked) false ⟨#[], #[.agg #[.int .i64 0, .slice none 0 0], .agg #[.int .i64 0, .slice none 0 0]], []⟩ 8 (by kernel_rfl) (by kernel_rfl) (by kernel_rfl) (by kernel_rfl)) ?_
  intro W base args ds gs before hval0 hW hcnd hsz0 _
  have hsz : (DataW.weightsEach Try.prog (Try.f3.params.toList ++ Rows.regsJoinSpec.plain.varTypes Try.prog) (ds ++ gs)).all (· ≤ reachBytes) = true := hsz0
  have hval : ∀ (j : Nat) t v, Try.f3.params[j]? = some t → args[j]? = some v → Value.okWide Try.prog W .any base t v := hval0
  have hW' := hW
  obtain ⟨p, q, hA0, hV, rfl, hfz, hnd⟩ := hW
  have hA : DataW.TrodAll enc Try.prog W 0 (fun _ => true) true Try.f3.params.toList args.toList ds p := hA0
  rw [Try.params3] at hA hval hsz
  obtain ⟨v0, vs0, d0, ds0, p0, q0, hargs, rfl, rfl, h0, r0⟩ := trodAll_cons hA
  obtain ⟨v1, vs1, d1, ds1, p1, q1, rfl, rfl, rfl, h1, r1⟩ := trodAll_cons r0
  obtain ⟨rfl, rfl, rfl⟩ := trodAll_nil r1
  obtain rfl : args = #[v0, v1] := by cases args; simp_all
  obtain ⟨rfl, rfl⟩ := trodVars_none hV
  have k0 := h0
  have lt0 : ∀ x ∈ p0, x.block < W.heap.size := by obtain ⟨m, hm⟩ := k0; exact DataW.trod_lt m _ _ _ hm
  obtain ⟨i0, A0, n0, c0, L0, rfl, hl0, hw0, hs0⟩ := reg_data (hval 0 24 v0 rfl rfl) h0
  have hr0 : ∃ L, Lines W A0 n0 c0 L ∧ Fit L := ⟨L0, hl0, fun s hs => by have h9 := List.all_eq_true.1 hsz _ (DataW.weights_mem_each (j := 0) rfl rfl _ (hs0 s hs)); simpa using h9⟩
  have k1 := h1
  have lt1 : ∀ x ∈ p1, x.block < W.heap.size := by obtain ⟨m, hm⟩ := k1; exact DataW.trod_lt m _ _ _ hm
  obtain ⟨i1, A1, n1, c1, L1, rfl, hl1, hw1, hs1⟩ := reg_data (hval 1 24 v1 rfl rfl) h1
  have hr1 : ∃ L, Lines W A1 n1 c1 L ∧ Fit L := ⟨L1, hl1, fun s hs => by have h9 := List.all_eq_true.1 hsz _ (DataW.weights_mem_each (j := 1) rfl rfl _ (hs1 s hs)); simpa using h9⟩
  clear hA0 hval0 hsz0
  refine (walk_any W hr0 hr1 hw0 hw1).mono fun e W' ⟨he, bel⟩ => ?_
  subst he
  exact ⟨_, rfl, _, _, _, [], _, [], hW', trodAll_mk1 (shut_bool Try.underlying4 _), (trodAll_cons_mk (Below.trod laidOut (by kernel_rfl) (of_decide_eq_true (by kernel_rfl)) k0 bel lt0) (trodAll_cons_mk (Below.trod laidOut (by kernel_rfl) (of_decide_eq_true (by kernel_rfl)) k1 bel lt1) trodAll_mk0)), rfl, bel.frame _, fun h => by cases h⟩
theorem over : Rows.regsJoinRow.holds Try.pinned (OpenSpec.ofChange Rows.regsJoinSpec) :=
  OpenClaim.holds_of_wide 3 Try.f3 rfl rfl rfl rfl rfl rfl rfl ⟨rfl, rfl, rfl, rfl, rfl⟩ rfl rfl rfl rfl rfl (by kernel_rfl) Try.func3 (by kernel_rfl)
    (of_decide_eq_true (by kernel_rfl)) (by unfold Func.isWrapper; first | (rw [if_pos (by decide +kernel)]; kernel_rfl) | (rw [if_neg (by decide +kernel)]; exact ⟨rfl, rfl⟩))
    (fun os started H enc _ => lifted os started H enc)
end Go.Proofs.Ytgdlplkeafeblaa.regsJoin
namespace Go.Proofs.Ytgdlplkeafeblaa
theorem regsJoin_holds : Rows.RegsJoinSaid := regsJoin.over
#print axioms regsJoin_holds
end Go.Proofs.Ytgdlplkeafeblaa
