/- The statements' same: a program's file and a document's that hold the same are the same. -/
import Derived.Test.YtgdlplkeafeblaaSt2
import Derived.Test.YtgdlplkeafeblaaRegsNames2
import Derived.Test.YtgdlplkeafeblaaStr
import Derived.Deep.RegionHeld3
import Derived.Deep.RegionLaw
import Derived.Deep.DeepCutAuto
namespace Go.Proofs.Ytgdlplkeafeblaa.Rf
open Go.RowKit Go.Shelf Go.Proofs.Ytgdlplkeafeblaa.MapRaw Go.Proofs.Ytgdlplkeafeblaa.Frm Go.Proofs.Ytgdlplkeafeblaa.Lns Go.Proofs.Ytgdlplkeafeblaa.Rg Go.Proofs.Ytgdlplkeafeblaa.Keys
set_option linter.unusedVariables false
set_option linter.unusedSimpArgs false
attribute [local go_sem ↓] Go.wp_at_zero Go.wp_at_succ

set_option maxHeartbeats 4000000 in
set_option maxRecDepth 100000 in
theorem same_calls (base B M P : Nat) (f : Nat → Option Reg) (w : World) (h : At w B M f) (hd : Bd f) (hr : RAt w base P f) (hok : ∀ k r, f k = some r → Rg.keyOf k = k) :
    Calls Try.prog 26 #[.pointer (some ⟨B, 0, none⟩), .pointer (some ⟨P, 0, none⟩)] w fun e w' => e = .returned (.bool true) ∧ Only No w w' := by
  obtain ⟨v1, v2, q, hbox, hn, hrr, hq, hbr⟩ := hr.ex
  obtain ⟨A1, c1, rfl, _, hc1, hm1, hnl1, _, hs1⟩ := row_shape hn
  obtain ⟨A2, c2, rfl, _, hc2, hm2, hnl2, _, hs2⟩ := row_shape hrr
  unfold maxLen at hm1 hm2
  have hN256 : (Rg.names f).length ≤ 256 := Ins.nms_length _
  obtain ⟨p0, p1, _, _⟩ := two_cells hbox
  have hPlt := heap_lt hbox
  have hcvd := run_string_row (src := 34) (dst := 9) Try.underlying34 Try.underlying9 (row_only hn ((Only.refl No w).drew) (fun _ _ h => h))
  have hcv0 := run_string_row (src := 34) (dst := 9) Try.underlying34 Try.underlying9 hn
  have HX := Lib.hid (And.intro h (And.intro hd (And.intro hbox (And.intro hn (And.intro hrr hq)))))
  have HS := Lib.hid (And.intro hs1 hs2)
  have hlen : (Rg.names f).length = (Rg.names f).length := rfl
  clear h hd hr hbox hn hrr hq hbr hs1 hs2 hnl1 hnl2 hlen
  go_enter Try.func26, Try.ntmps26
  go_upto_region 1 with (fail)
  go_cut [16] (fun s16 wx => s16 = .bool false ∧ Only No w wx)
  case first =>
    go_region_with
      (first | (go_at_call 28; refine (names_all B M f _ (HX.out.1.no (Only.refl No w).drew)).mono ?_; rintro e w1 ⟨v, rfl, hrow, hb1⟩; have hO1 : Only No w w1 := ((Only.refl No w).drew).call hb1; have hcv1 := run_string_row (src := 34) (dst := 9) Try.underlying34 Try.underlying9 (row_only HX.out.2.2.2.1 hO1 (fun _ _ h => h)); have hcv := run_string_row (src := 34) (dst := 9) Try.underlying34 Try.underlying9 hrow; have k0 := (cell_block (hO1.block P hPlt (fun h => h)) 0).trans p0))
    all_goals (go_wp2_with fail; go_meet)
    all_goals exact ⟨rfl, hO1⟩
  case rest =>
    obtain ⟨rfl, hOc⟩ := hcut
    clear hcvd hcv0 p0 p1
    obtain ⟨N, hN⟩ : ∃ N, (Rg.names f).length = N := ⟨_, rfl⟩
    have HN := Lib.hid hN
    have HOK := Lib.hid hok
    have HOC := Lib.hid hOc
    rw [hN] at hc1 hc2 hN256
    clear hN hok hOc
    go_wp2_with fail
    go_loopw [5, 6, 7] (fun i _ _ wr => ∃ j : Nat, i = .int .i64 (j : Int) ∧ j ≤ N ∧ Only No w wr) (fun i _ _ _ => N - (intOf i).toNat)
    case atStart => exact ⟨0, rfl, by omega, HOC.out⟩
    case round =>
      obtain ⟨j, rfl, hj, hO⟩ := hrel
      obtain ⟨hA, hd, hbox, hn, hrr, hq⟩ := HX.out
      obtain ⟨p0, p1, _, _⟩ := two_cells ((hO.block P hPlt (fun h => h)).trans hbox)
      rw [HN.out] at p0 p1
      by_cases hjN : j < N
      · obtain ⟨g1, hg1⟩ := HS.out.1 (by have := HN.out; omega)
        obtain ⟨g2, hg2⟩ := HS.out.2 (by have := HN.out; omega)
        subst hg1
        subst hg2
        have hjl : j < (Rg.names f).length := by have := HN.out; omega
        obtain ⟨x, hx⟩ : ∃ x, (Rg.names f)[j]? = some x := ⟨_, List.getElem?_eq_getElem hjl⟩
        have hnW := row_only hn hO (fun _ _ h => h)
        have hrW := row_only hrr hO (fun _ _ h => h)
        have hc := hnW.cellAt j (by omega)
        rw [List.getElem?_map, hx] at hc
        have hc : wr.cell? ⟨g1, j, none⟩ = some (.int .u8 ((x : Nat) : Int)) := hc
        obtain ⟨h3, h4⟩ := flat_at (Rg.names f) q hx
        have hc3 := hrW.cellAt (j * 2) (by omega)
        have hc4 := hrW.cellAt (j * 2 + 1) (by omega)
        rw [h3] at hc3
        rw [h4] at hc4
        have hxm : x ∈ Rg.names f := List.mem_of_getElem? hx
        have hx256 : x < 256 := Ins.nms_lt hxm
        have hsome : (f x).isSome = true := (List.mem_filter.1 hxm).2
        obtain ⟨r, hr⟩ := Option.isSome_iff_exists.1 hsome
        have hkx := HOK.out x r hr
        have hqx := hq x r hr
        have HK := Lib.hid (show f (Rg.keyOf x) = some r from by rw [hkx]; exact hr)
        have HQ := Lib.hid (And.intro hqx.1 (hqx.2.only hO (fun _ _ h => h.elim)))
        have HO := Lib.hid hO
        have HA := Lib.hid (hA.no hO)
        have hlr : r.2.length ≤ 1099511627776 := by have := hd _ _ hr; have := length_le_sizeL r.2; omega
        have hgl1 : g2 < wr.heap.size := (hrW.lt g2 rfl).2
        have HC := Lib.hid (And.intro hc3 (And.intro hc4 (show wr.cell? ⟨P, 1, none⟩ = some (.slice (some ⟨g2, 0, none⟩) N c2) from p1)))
        have hPr : P < wr.heap.size := Nat.lt_of_lt_of_le hPlt hO.size
        clear hA hd hbox hn hrr hq hnW hrW h3 h4 hc3 hc4 hxm hsome hr hkx hqx hx hO
        go_wp2_with fail
        refine (get_calls B M f x _ HA.out hx256 (by rw [HK.out]; exact hlr)).mono ?_
        rintro e w2 ⟨v, rfl, hv, hO2⟩
        rw [HK.out] at hv ⊢
        simp only [regOr, Option.getD_some, Option.isSome_some] at hv ⊢
        obtain ⟨A5, m5, c5, rfl, hl5⟩ := hv
        obtain ⟨W, hW⟩ : ∃ W, w2.alloc (.cells #[.int .i64 r.1, .slice A5 m5 c5] 24) = W := ⟨_, rfl⟩
        have hOW : Only No wr W := by rw [← hW]; exact hO2.alloc _
        have hfW : W.heap[w2.heap.size]? = some (.cells #[.int .i64 r.1, .slice A5 m5 c5] 24 (0, 0)) := by rw [← hW]; exact alloc_new _ _
        obtain ⟨t0, t1, _, _⟩ := reg_cells hfW
        have hlW : Lines W A5 m5 c5 r.2 := by rw [← hW]; exact hl5.only ((Only.refl No _).alloc _) (fun _ _ h => h.elim)
        have u0 := (cell_block (hOW.block g2 hgl1 (fun h => h)) (j * 2)).trans HC.out.1
        have u1 := (cell_block (hOW.block g2 hgl1 (fun h => h)) (j * 2 + 1)).trans HC.out.2.1
        have u2 := (cell_block (hOW.block P hPr (fun h => h)) 1).trans HC.out.2.2
        have hlq := HQ.out.2.only hOW (fun _ _ h => h.elim)
        have HLW := Lib.hid (And.intro hlW hlq)
        have HOW := Lib.hid (HO.out.trans' hOW)
        clear hlW hlq hl5 hO2 hc p0 p1
        have HE1 := Lib.hid HQ.out.1
        have hl2 : w2.heap.size < W.heap.size := heap_lt hfW
        have hg2W : g2 < W.heap.size := Nat.lt_of_lt_of_le hgl1 hOW.size
        have hPW : P < W.heap.size := Nat.lt_of_lt_of_le hPr hOW.size
        have i1 : (0 : Int) ≤ (j : Int) := by omega
        have i2 : (j : Int) < (N : Int) := by omega
        clear hOW hfW HQ HC
        go_wp2_with fail
        go_region_held3 (fun w' => w'.cell? ⟨w2.heap.size, 0, none⟩ = some (.int .i64 r.1) ∧ w'.cell? ⟨w2.heap.size, 1, none⟩ = some (.slice A5 m5 c5) ∧ w'.cell? ⟨P, 1, none⟩ = some (.slice (some ⟨g2, 0, none⟩) N c2) ∧ w'.cell? ⟨g2, j * 2, none⟩ = some (.int .i64 (q x).1) ∧ w'.cell? ⟨g2, j * 2 + 1, none⟩ = some (.slice (q x).2.1 (q x).2.2.1 (q x).2.2.2))
          (first | exact ⟨by assumption, by assumption, by assumption, by assumption, by assumption⟩ | go_keep)
          (first | (go_at_call 13; refine (reg_calls _ _ r r _ ⟨A5, m5, c5, rfl, HLW.out.1.only ((Only.refl No W).drew) (fun _ _ h => h.elim)⟩ ⟨(q x).2.1, (q x).2.2.1, (q x).2.2.2, by rw [HE1.out], HLW.out.2.only ((Only.refl No W).drew) (fun _ _ h => h.elim)⟩).mono ?_; rintro e w3 ⟨rfl, hO3⟩; rw [decide_eq_true (rfl : r = r)]; have hO3' : Only No W w3 := ((Only.refl No W).drew).trans' hO3; have k0 := (cell_block (hO3'.block _ hl2 (fun h => h)) 0).trans t0; have k1 := (cell_block (hO3'.block _ hl2 (fun h => h)) 1).trans t1; have k2 := (cell_block (hO3'.block P hPW (fun h => h)) 1).trans u2; have k3 := (cell_block (hO3'.block g2 hg2W (fun h => h)) (j * 2)).trans u0; have k4 := (cell_block (hO3'.block g2 hg2W (fun h => h)) (j * 2 + 1)).trans u1))
        all_goals (
          go_wp2_with fail
          go_roundw
          case rel => exact ⟨j + 1, by first | rfl | (simp; done) | (simp; omega), by omega, HOW.out.trans' hO3'⟩
          case measure => first | (simp [intOf]; done) | (simp [intOf]; omega))
      · obtain rfl : j = N := by omega
        go_wp2_with fail
        go_ret
        exact ⟨rfl, hO⟩
end Go.Proofs.Ytgdlplkeafeblaa.Rf
