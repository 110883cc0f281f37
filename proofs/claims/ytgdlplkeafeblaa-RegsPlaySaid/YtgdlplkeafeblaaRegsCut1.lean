/- The program's registers: what Cut hands to set. -/
import Derived.Test.YtgdlplkeafeblaaRegsCaught
namespace Go.Proofs.Ytgdlplkeafeblaa.Rg
open Go.RowKit Go.Proofs.Ytgdlplkeafeblaa.MapRaw Go.Proofs.Ytgdlplkeafeblaa.Frm Go.Proofs.Ytgdlplkeafeblaa.Lns
set_option linter.unusedVariables false
set_option linter.unusedSimpArgs false
attribute [local go_sem ↓] Go.wp_at_zero Go.wp_at_succ

/-- The numbered registers, down to the one that is to be written next. -/
def shiftTo (f : Nat → Option Reg) (j : Nat) : Nat → Option Reg := fun k => if j < k ∧ k ≤ 57 then (match f (k - 1) with | some was => some was | none => f k) else f k
theorem shiftTo_top (f : Nat → Option Reg) : shiftTo f 57 = f := by
  funext k; unfold shiftTo; rw [if_neg (by omega)]
theorem shiftTo_at (f : Nat → Option Reg) (j k : Nat) (h : k ≤ j) : shiftTo f j k = f k := by unfold shiftTo; rw [if_neg (by omega)]
theorem shiftTo_some {f : Nat → Option Reg} {j : Nat} {was : Reg} (hj : j < 57) (h : f j = some was) : updR (shiftTo f (j + 1)) (j + 1) (some was) = shiftTo f j := by
  funext k
  unfold updR shiftTo
  by_cases e : k = j + 1
  · subst e
    rw [if_pos rfl, if_pos (by omega), Nat.add_sub_cancel, h]
  · rw [if_neg e]
    by_cases h1 : j < k ∧ k ≤ 57
    · rw [if_pos h1, if_pos (by omega)]
    · rw [if_neg h1, if_neg (by omega)]
theorem shiftTo_none {f : Nat → Option Reg} {j : Nat} (hj : j < 57) (h : f j = none) : shiftTo f (j + 1) = shiftTo f j := by
  funext k
  unfold shiftTo
  by_cases e : k = j + 1
  · subst e
    rw [if_neg (by omega), if_pos (by omega), Nat.add_sub_cancel, h]
  · by_cases h1 : j < k ∧ k ≤ 57
    · rw [if_pos h1, if_pos (by omega)]
    · rw [if_neg h1, if_neg (by omega)]
def isSmall (r : Reg) : Bool := decide (r.1 ≠ 1) && decide (r.2.length ≤ 1)
/-- What a cut does to the numbered registers, or to the small one. -/
def cutF (f : Nat → Option Reg) (r : Reg) : Nat → Option Reg := if isSmall r then updR f 45 (some r) else updR (shiftTo f 49) 49 (some r)

set_option maxHeartbeats 8000000 in
set_option maxRecDepth 100000 in
theorem cut1_calls (B M p q : Nat) (f : Nat → Option Reg) (r : Reg) (w : World) (h : At w B M f) (hc : Caught w B p q r) (hn : r.2.length ≤ 1099511627776) :
    Calls Try.prog 32 #[.pointer (some ⟨p, 0, none⟩), .pointer (some ⟨q, 0, none⟩)] w fun e w' => e = .returned (.tuple #[]) ∧ At w' B M (cutF f r) ∧ Only (fun b => b = M) w w' := by
  obtain ⟨A, n, c, hp, hl⟩ := hc.reg
  have hq := hc.file
  have hB := h.box
  obtain ⟨hpM, hqM⟩ := hc.ne h
  have hBM := h.ne
  have hpl := heap_lt hp
  have hql := heap_lt hq
  have hBl := heap_lt hB
  have hln := hl.len
  obtain ⟨f0, f1, f2, f3⟩ := reg_cells hp
  have f4 := cell_of_one hq
  have f5 := cell_of_one hB
  have HD := Lib.hid (show IsReg w.drew (.agg #[.int .i64 r.1, .slice A n c]) r from ⟨A, n, c, rfl, hl.only ((Only.refl No w).drew) (fun _ _ h => h.elim)⟩)
  have HA := Lib.hid h
  have HC := Lib.hid hc
  clear hc hp hl h hq hB
  cases hs : isSmall r with
  | true =>
    have e : cutF f r = updR f 45 (some r) := by unfold cutF; rw [hs]; rfl
    rw [e]
    have g1 : (r.1 != 1) = true := by simp [isSmall] at hs; rw [bne_iff_ne]; exact hs.1
    have g2 : (n : Int) ≤ 1 := by simp [isSmall] at hs; omega
    clear hs e hln
    go_enter Try.func32, Try.ntmps32
    go_wp2_with fail
    go_region_held3 (fun w' => w'.cell? ⟨p, 0, none⟩ = some (.int .i64 r.1) ∧ w'.cell? ⟨p, 1, none⟩ = some (.slice A n c) ∧ w'.cell? ⟨q, 0, none⟩ = some (.pointer (some ⟨B, 0, none⟩)) ∧ w'.cell? ⟨B, 0, none⟩ = some (.map (some M))) (first | go_keep | exact ⟨by assumption, by assumption, by assumption, by assumption⟩)
      (first | (go_at_call 33; refine (clone_calls _ r _ HD.out hn).mono ?_; rintro e w1 ⟨u, rfl, hu, hO⟩; have hO1 := (Only.refl No w).drew.trans' hO; obtain ⟨w3, hrun, hA3, hO3⟩ := (HA.out.no hO1).store (show 45 < 256 by omega) hu; rw [show ((45 : Nat) : Int) = 45 from rfl] at hrun; obtain ⟨A2, n2, c2, rfl, hl2⟩ := hu; have k0 := (cell_block (hO1.block p hpl (fun h => h)) 0).trans f0; have k1 := (cell_block (hO1.block p hpl (fun h => h)) 1).trans f1; have k2 := (cell_block (hO1.block q hql (fun h => h)) 0).trans f4; have k3 := (cell_block (hO1.block B hBl (fun h => h)) 0).trans f5; have hsz := hO1.size; have m0 := (cell_block (hO3.block p (by omega) hpM) 0).trans k0; have m1 := (cell_block (hO3.block p (by omega) hpM) 1).trans k1; have m2 := (cell_block (hO3.block q (by omega) hqM) 0).trans k2; have m3 := (cell_block (hO3.block B (by omega) hBM) 0).trans k3; have hQ := Lib.hid (And.intro hA3 ((hO1.mono (S' := fun b => b = M) (fun _ _ h => h.elim)).trans' hO3)); clear hA3 hO3 hO1 hO hl2))
    go_wp2
    first
      | (go_end0; exact ⟨rfl, hQ.out.1, hQ.out.2⟩)
      | (refine bodyPost_ret (results_none rfl _ _ _) rfl ?_; exact ⟨rfl, hQ.out.1, hQ.out.2⟩)
  | false =>
    have e : cutF f r = updR (shiftTo f 49) 49 (some r) := by unfold cutF; rw [hs]; rfl
    rw [e]
    have g : (r.1 != 1) = false ∨ ((r.1 != 1) = true ∧ (1 : Int) < (n : Int)) := by
      simp [isSmall] at hs
      by_cases h1 : r.1 = 1
      · left; rw [bne_eq_false_iff_eq]; exact h1
      · right; refine ⟨by rw [bne_iff_ne]; exact h1, ?_⟩; have := hs h1; omega
    clear hs e hln
    rcases g with g1 | ⟨g1, g2⟩
    all_goals (
      go_enter Try.func32, Try.ntmps32
      go_wp2_with fail
      go_loopw [2, 3, 4] (fun i s t wr => ∃ j : Nat, i = .int .u8 ((j : Int) + 1) ∧ 48 ≤ j ∧ j ≤ 56 ∧ At wr B M (shiftTo f (j + 1)) ∧ Only (fun b => b = M) w wr) (fun i _ _ _ => (intOf i).toNat - 49)
      case atStart => exact ⟨56, rfl, by omega, by omega, by rw [shiftTo_top]; exact HA.out, Only.refl _ _⟩
      case round =>
        obtain ⟨j, rfl, h1, h2, hAt, hOn⟩ := hrel
        have hC2 := HC.out.map HA.out hOn
        have q0 := (cell_block (hOn.block p hpl hpM) 0).trans f0
        have q1 := (cell_block (hOn.block p hpl hpM) 1).trans f1
        have q4 := (cell_block (hOn.block q hql hqM) 0).trans f4
        have q5 := (cell_block (hOn.block B hBl hBM) 0).trans f5
        have hpl2 : p < wr.heap.size := Nat.lt_of_lt_of_le hpl hOn.size
        have hql2 : q < wr.heap.size := Nat.lt_of_lt_of_le hql hOn.size
        have hBl2 : B < wr.heap.size := Nat.lt_of_lt_of_le hBl hOn.size
        have HA2 := Lib.hid hAt
        have HO2 := Lib.hid hOn
        by_cases hgt : j = 48
        · subst hgt
          have HD2 := Lib.hid (show IsReg wr.drew (.agg #[.int .i64 r.1, .slice A n c]) r from (by
            obtain ⟨A9, n9, c9, e1, e2⟩ := HD.out
            cases e1
            exact ⟨A, n, c, rfl, e2.only (w := w.drew) (w' := wr.drew) (S := fun b => b = M) ⟨hOn.os, hOn.tape, hOn.output, hOn.size, hOn.block⟩ (fun b _ e => by subst e; exact HA.out.bare)⟩))
          clear hAt hOn hC2 h1 h2
          go_wp2_with fail
          go_region_held3 (fun w' => w'.cell? ⟨p, 0, none⟩ = some (.int .i64 r.1) ∧ w'.cell? ⟨p, 1, none⟩ = some (.slice A n c) ∧ w'.cell? ⟨q, 0, none⟩ = some (.pointer (some ⟨B, 0, none⟩)) ∧ w'.cell? ⟨B, 0, none⟩ = some (.map (some M))) (first | go_keep | exact ⟨by assumption, by assumption, by assumption, by assumption⟩)
            (first | (go_at_call 33; refine (clone_calls _ r _ HD2.out hn).mono ?_; rintro e w1 ⟨u, rfl, hu, hO⟩; have hO1 := (Only.refl No wr).drew.trans' hO; obtain ⟨w3, hrun, hA3, hO3⟩ := (HA2.out.no hO1).store (show 49 < 256 by omega) hu; rw [show ((49 : Nat) : Int) = 49 from rfl] at hrun; obtain ⟨A2, n2, c2, rfl, hl2⟩ := hu; have k0 := (cell_block (hO1.block p hpl2 (fun h => h)) 0).trans q0; have k1 := (cell_block (hO1.block p hpl2 (fun h => h)) 1).trans q1; have k2 := (cell_block (hO1.block q hql2 (fun h => h)) 0).trans q4; have k3 := (cell_block (hO1.block B hBl2 (fun h => h)) 0).trans q5; have hsz := hO1.size; have m0 := (cell_block (hO3.block p (by omega) hpM) 0).trans k0; have m1 := (cell_block (hO3.block p (by omega) hpM) 1).trans k1; have m2 := (cell_block (hO3.block q (by omega) hqM) 0).trans k2; have m3 := (cell_block (hO3.block B (by omega) hBM) 0).trans k3; have hQ := Lib.hid (And.intro hA3 ((hO1.mono (S' := fun b => b = M) (fun _ _ h => h.elim)).trans' hO3)); clear hA3 hO3 hO1 hO hl2))
          go_wp2
          first
            | (go_end0; exact ⟨rfl, hQ.out.1, HO2.out.trans' hQ.out.2⟩)
            | (refine bodyPost_ret (results_none rfl _ _ _) rfl ?_; exact ⟨rfl, hQ.out.1, HO2.out.trans' hQ.out.2⟩)
        · have g5 : (49 : Int) < (j : Int) + 1 := by omega
          have g6 : (j : Int) ≤ 56 := by omega
          obtain ⟨A', m', c', hlook, hl'⟩ := hAt.look (show j < 256 by omega)
          rw [shiftTo_at _ _ _ (Nat.le_succ j)] at hlook hl'
          cases hfj : f j with
          | none =>
            rw [hfj] at hlook
            rw [shiftTo_none (by omega) hfj] at HA2
            simp only [regOr, Option.getD_none, Option.isSome_none] at hlook
            clear hAt hOn hC2 hl'
            go_wp2_with fail
            have hAl := (Only.refl No wr).alloc (.cells #[.int .i64 0, .slice A' m' c'] 24)
            go_roundw
            case rel => exact ⟨j - 1, by first | rfl | (simp; done) | (simp; omega), by omega, by omega, by rw [show j - 1 + 1 = j by omega]; exact HA2.out.no hAl, HO2.out.alloc _⟩
            case measure => first | (simp [intOf]; done) | (simp [intOf]; omega)
          | some was =>
            rw [hfj] at hlook hl'
            simp only [regOr, Option.getD_some, Option.isSome_some] at hlook hl'
            have hAl := (Only.refl No wr).alloc (.cells #[.int .i64 was.1, .slice A' m' c'] 24)
            have hv2 : IsReg (wr.alloc (.cells #[.int .i64 was.1, .slice A' m' c'] 24)).drew (.agg #[.int .i64 was.1, .slice A' m' c']) was := ⟨A', m', c', rfl, hl'.only hAl.drew (fun _ _ h => h.elim)⟩
            obtain ⟨w3, hrun, hA3, hO3⟩ := (hAt.no hAl.drew).store (show j + 1 < 256 by omega) hv2
            rw [show ((j + 1 : Nat) : Int) = (j : Int) + 1 by omega] at hrun
            rw [shiftTo_some (by omega) hfj] at hA3
            have HQ := Lib.hid (And.intro hA3 ((hOn.trans' (hAl.drew.mono (fun _ _ h => h.elim))).trans' hO3))
            clear hAt hOn hC2 hl' hA3 hO3 hv2 hAl HA2 HO2
            go_wp2_with fail
            go_region
            all_goals (
              go_wp2_with fail
              go_roundw
              case rel => exact ⟨j - 1, by first | rfl | (simp; done) | (simp; omega), by omega, by omega, by rw [show j - 1 + 1 = j by omega]; exact HQ.out.1, HQ.out.2⟩
              case measure => first | (simp [intOf]; done) | (simp [intOf]; omega)))
end Go.Proofs.Ytgdlplkeafeblaa.Rg
