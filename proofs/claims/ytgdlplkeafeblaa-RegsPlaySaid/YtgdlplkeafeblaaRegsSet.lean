/- The program's registers: set. -/
import Derived.Test.YtgdlplkeafeblaaRegsPut2
import Derived.RangeFuncCalls
import Derived.Shelf.Abstract
namespace Go.Proofs.Ytgdlplkeafeblaa.Rg
open Go.RowKit Go.Shelf Go.Proofs.Ytgdlplkeafeblaa.MapRaw Go.Proofs.Ytgdlplkeafeblaa.Frm Go.Proofs.Ytgdlplkeafeblaa.Lns
set_option linter.unusedVariables false
set_option linter.unusedSimpArgs false
attribute [local go_sem ↓] Go.wp_at_zero Go.wp_at_succ

def isPlain (n : Nat) : Bool := n == 0 || n == 34
def setE (f : Nat → Option Reg) (n : Nat) (r : Reg) : Nat := if n = 95 then 0 else if isPlain n then (if 4096 < sizeL r.2 then 21 else 0) else putE f n r
def setF (f f' : Nat → Option Reg) (n : Nat) (r : Reg) : Nat → Option Reg :=
  if n = 95 then f else if isPlain n then (if 4096 < sizeL r.2 then f else updR f' 34 (some r)) else if putE f n r = 0 then updR (putF f n r) 34 (some (nowR f n r)) else f

theorem putE_letter {f : Nat → Option Reg} {n : Nat} {r : Reg} (h : putE f n r = 0) : isLetter n = true ∧ sizeL (nowR f n r).2 ≤ 4096 := by
  unfold putE at h
  split at h
  · rename_i hl
    refine ⟨hl, ?_⟩
    split at h
    · cases h
    · omega
  · cases h
theorem keyOf_letter {n : Nat} (h : isLetter n = true) : keyOf n = keyL n := by
  unfold keyOf keyL
  cases hc : isCap n with
  | true =>
    simp [isCap] at hc
    rw [if_neg (by omega), if_pos hc]; rfl
  | false =>
    have h2 : isLow n = true := by simpa [isLetter, hc] using h
    simp [isLow] at h2
    rw [if_neg (by omega), if_neg (by omega)]; rfl

set_option maxHeartbeats 8000000 in
set_option maxRecDepth 100000 in
theorem set_calls (B M : Nat) (f f' : Nat → Option Reg) (n : Nat) (v : Value) (r : Reg) (g : Nat) (fv : Array Value) (eg : ∀ args w, (callFunc g args).run Try.prog w = .ok (.enter g args) w) (w : World) (h : At w B M f) (hv : IsReg w v r) (hlt : n < 256) (hsz : sizeL r.2 ≤ 268435456) (hf : Bd f)
    (hclo : ∀ w1, Only No w w1 → Calls Try.prog g fv w1 fun e w2 => e = .returned (.tuple #[]) ∧ At w2 B M f' ∧ Only (fun b => b = M) w1 w2) :
    Calls Try.prog 31 #[.pointer (some ⟨B, 0, none⟩), .int .u8 (n : Int), v, .func (.func g) #[] fv] w fun e w' => e = .returned (.int .i64 (setE f n r : Nat)) ∧ At w' B M (setF f f' n r) ∧ Only (fun b => b = M) w w' := by
  obtain ⟨A, m, c, rfl, hL⟩ := hv
  have hOO : ∀ o1, Only No w (w.alloc o1) := fun o1 => (Only.refl _ w).alloc _
  have HL := Lib.hid hL
  have hlen := length_le_sizeL r.2
  have hBM := h.ne
  clear hL
  by_cases h95 : n = 95
  · have e1 : setE f n r = 0 := if_pos h95
    have e2 : setF f f' n r = f := if_pos h95
    rw [e1, e2]
    subst h95
    go_enter Try.func31, Try.ntmps31
    go_wp2_with fail
    go_ret
    exact ⟨rfl, h.no (hOO _), (hOO _).mono (fun _ _ h => h.elim)⟩
  · have g95 : ((n : Int) == 95) = false := by rw [beq_eq_false_iff_ne]; omega
    cases hpl : isPlain n with
    | false =>
      have e1 : setE f n r = putE f n r := by unfold setE; rw [if_neg h95, hpl]; rfl
      have e2 : setF f f' n r = if putE f n r = 0 then updR (putF f n r) 34 (some (nowR f n r)) else f := by unfold setF; rw [if_neg h95, hpl]; rfl
      rw [e1, e2]
      have g0 : ((n : Int) != 0) = true := by simp [isPlain] at hpl; rw [bne_iff_ne]; omega
      have g34 : ((n : Int) != 34) = true := by simp [isPlain] at hpl; rw [bne_iff_ne]; omega
      have HP := put_calls B M f n (.agg #[.int .i64 r.1, .slice A m c]) r _ (h.no (hOO (.cells #[.int .i64 r.1, .slice A m c] 24))) ⟨A, m, c, rfl, HL.out.only (hOO _) (fun _ _ h => h.elim)⟩ hlt hsz hf
      have HO := hOO (.cells #[.int .i64 r.1, .slice A m c] 24)
      clear e1 e2 hpl h hOO hclo HL
      by_cases hp0 : putE f n r = 0
      · obtain ⟨hlet, hns⟩ := putE_letter hp0
        have hkk := keyOf_letter hlet
        have hF : putF f n r (keyOf n) = some (nowR f n r) := by unfold putF updR; rw [if_pos hp0, hkk, if_pos rfl]
        rw [if_pos hp0, hp0]
        rw [hp0] at HP
        generalize hnow : nowR f n r = now at *
        generalize putF f n r = pf at *
        have hnl := length_le_sizeL now.2
        have HC := Lib.hid HP
        clear HP hp0 hkk hnow hlet
        go_enter Try.func31, Try.ntmps31
        go_wp2_with fail
        refine HC.out.mono ?_
        rintro e w1 ⟨rfl, hA1, hO1⟩
        go_wp2_with fail
        refine (get_calls B M pf n _ hA1 hlt (by rw [hF]; simp only [regOr, Option.getD_some]; omega)).mono ?_
        rintro e w2 ⟨u, rfl, hu, hO2⟩
        rw [hF] at hu ⊢
        simp only [regOr, Option.getD_some, Option.isSome_some] at hu ⊢
        obtain ⟨A2, n2, c2, rfl, hl2⟩ := hu
        have hAl := (Only.refl No w2).alloc (.cells #[.int .i64 now.1, .slice A2 n2 c2] 24)
        have hv3 : IsReg (w2.alloc (.cells #[.int .i64 now.1, .slice A2 n2 c2] 24)).drew (.agg #[.int .i64 now.1, .slice A2 n2 c2]) now := ⟨A2, n2, c2, rfl, hl2.only hAl.drew (fun _ _ h => h.elim)⟩
        have hA2 := (hA1.no hO2).no hAl
        obtain ⟨w3, hrun, hA3, hO3⟩ := (show At (w2.alloc (.cells #[.int .i64 now.1, .slice A2 n2 c2] 24)).drew B M pf from hA2.no ((Only.refl No _).drew)).store (show 34 < 256 by omega) hv3
        rw [show ((34 : Nat) : Int) = 34 from rfl] at hrun
        have hcB := cell_of_one hA2.box
        have HQ := Lib.hid (And.intro hA3 ((((HO.mono (S' := fun b => b = M) (fun _ _ h => h.elim)).trans' hO1).trans' ((hO2.trans' hAl.drew).mono (fun _ _ h => h.elim))).trans' hO3))
        clear hA3 hO3 hv3 hA2 hAl hl2 hO2 hA1 hO1 HO HC
        go_wp2_with fail
        go_region
        all_goals (go_wp2; go_ret; exact ⟨rfl, HQ.out.1, HQ.out.2⟩)
      · have hF : putF f n r = f := by unfold putF; rw [if_neg hp0]
        have ge : (((putE f n r : Nat) : Int) != 0) = true := by rw [bne_iff_ne]; omega
        rw [if_neg hp0]
        rw [hF] at HP
        generalize putE f n r = pe at *
        have HC := Lib.hid HP
        clear HP hF
        go_enter Try.func31, Try.ntmps31
        go_wp2_with fail
        refine HC.out.mono ?_
        rintro e w1 ⟨rfl, hA1, hO1⟩
        go_wp2_with fail
        go_ret
        exact ⟨rfl, hA1, (HO.mono (fun _ _ h => h.elim)).trans' hO1⟩
    | true =>
      have e1 : setE f n r = if 4096 < sizeL r.2 then 21 else 0 := by unfold setE; rw [if_neg h95, hpl]; rfl
      have e2 : setF f f' n r = if 4096 < sizeL r.2 then f else updR f' 34 (some r) := by unfold setF; rw [if_neg h95, hpl]; rfl
      rw [e1, e2]
      have hn : n = 0 ∨ n = 34 := by simpa [isPlain] using hpl
      have HA := Lib.hid h
      have hML := h.lt
      have hBl0 := heap_lt h.box
      clear e1 e2 hpl h95 g95 h
      by_cases hgt : 4096 < sizeL r.2
      · rw [if_pos hgt, if_pos hgt]
        have g1 : (4096 : Int) < (sizeL r.2 : Nat) := by omega
        rcases hn with rfl | rfl
        all_goals (
          go_enter Try.func31, Try.ntmps31
          go_wp2_with fail
          refine (size_calls _ r _ ⟨A, m, c, rfl, HL.out.only (hOO _) (fun _ _ h => h.elim)⟩ (by omega)).mono ?_
          rintro e w1 ⟨rfl, hO1⟩
          have hfin := (hOO (.cells #[.int .i64 r.1, .slice A m c] 24)).trans' hO1
          go_wp2_with fail
          go_ret
          exact ⟨rfl, HA.out.no hfin, hfin.mono (fun _ _ h => h.elim)⟩)
      · rw [if_neg hgt, if_neg hgt]
        have g1 : ¬ (4096 : Int) < (sizeL r.2 : Nat) := by omega
        rcases hn with rfl | rfl
        all_goals (
          go_enter Try.func31, Try.ntmps31
          go_wp2_with fail
          refine (size_calls _ r _ ⟨A, m, c, rfl, HL.out.only (hOO _) (fun _ _ h => h.elim)⟩ (by omega)).mono ?_
          rintro e w1 ⟨rfl, hO1⟩
          have hfin1 := (hOO (.cells #[.int .i64 r.1, .slice A m c] 24)).trans' hO1
          have hb1 := (hO1.block w.heap.size (by simp) (fun h => h)).trans (alloc_new w _)
          go_wp2_with fail
          refine (hclo _ hfin1).mono ?_
          rintro e w2 ⟨rfl, hA2, hO2⟩
          have hbareM := (HA.out.no hfin1).bare
          have hpM : w.heap.size ≠ M := by omega
          have hb2 := (hO2.block w.heap.size (heap_lt hb1) hpM).trans hb1
          obtain ⟨f0, f1, f2, f3⟩ := reg_cells hb2
          have hpl := heap_lt hb2
          have hBl := heap_lt hA2.box
          have f5 := cell_of_one hA2.box
          have HAl := (hfin1.mono (S' := fun b => b = M) (fun _ _ h => h.elim)).trans' hO2
          have HD := Lib.hid (show IsReg w2.drew (.agg #[.int .i64 r.1, .slice A m c]) r from ⟨A, m, c, rfl, (HL.out.only HAl (fun b _ e => by subst e; exact HA.out.bare)).only ((Only.refl No w2).drew) (fun _ _ h => h.elim)⟩)
          have HAll := Lib.hid HAl
          replace HA := Lib.hid hA2
          clear HAl hA2 hO2 hb2 hb1 hfin1 hO1 hclo hbareM HL f2 f3
          go_wp2_with fail
          go_region_held3 (fun w' => w'.cell? ⟨w.heap.size, 0, none⟩ = some (.int .i64 r.1) ∧ w'.cell? ⟨w.heap.size, 1, none⟩ = some (.slice A m c) ∧ w'.cell? ⟨B, 0, none⟩ = some (.map (some M))) (first | go_keep | exact ⟨by assumption, by assumption, by assumption⟩)
            (first | (go_at_call 33; refine (clone_calls _ r _ HD.out (by omega)).mono ?_; rintro e w1 ⟨u, rfl, hu, hO⟩; have hO1 := (Only.refl No w2).drew.trans' hO; obtain ⟨w3, hrun, hA3, hO3⟩ := (HA.out.no hO1).store (show 34 < 256 by omega) hu; rw [show ((34 : Nat) : Int) = 34 from rfl] at hrun; obtain ⟨A2, n2, c2, rfl, hl2⟩ := hu; have k0 := (cell_block (hO1.block w.heap.size hpl (fun h => h)) 0).trans f0; have k1 := (cell_block (hO1.block w.heap.size hpl (fun h => h)) 1).trans f1; have k3 := (cell_block (hO1.block B hBl (fun h => h)) 0).trans f5; have hsz := hO1.size; have m0 := (cell_block (hO3.block w.heap.size (by omega) hpM) 0).trans k0; have m1 := (cell_block (hO3.block w.heap.size (by omega) hpM) 1).trans k1; have m3 := (cell_block (hO3.block B (by omega) hBM) 0).trans k3; have hQ := Lib.hid (And.intro hA3 ((hO1.mono (S' := fun b => b = M) (fun _ _ h => h.elim)).trans' hO3)); clear hA3 hO3 hO1 hO hl2))
          go_wp2
          go_ret
          exact ⟨rfl, hQ.out.1, HAll.out.trans' hQ.out.2⟩)
end Go.Proofs.Ytgdlplkeafeblaa.Rg
