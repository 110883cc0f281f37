/- The program's registers: Put. -/
import Derived.Test.YtgdlplkeafeblaaRegsPut
namespace Go.Proofs.Ytgdlplkeafeblaa.Rg
open Go.RowKit Go.Proofs.Ytgdlplkeafeblaa.MapRaw Go.Proofs.Ytgdlplkeafeblaa.Frm Go.Proofs.Ytgdlplkeafeblaa.Lns
set_option linter.unusedVariables false
set_option linter.unusedSimpArgs false
attribute [local go_sem ↓] Go.wp_at_zero Go.wp_at_succ

def isLetter (n : Nat) : Bool := isLow n || isCap n
/-- Put: its error, and the registers behind it. -/
def putE (f : Nat → Option Reg) (n : Nat) (r : Reg) : Nat := if isLetter n then (if 4096 < sizeL (nowR f n r).2 then 21 else 0) else 23
def putF (f : Nat → Option Reg) (n : Nat) (r : Reg) : Nat → Option Reg := if putE f n r = 0 then updR f (keyL n) (some (nowR f n r)) else f

theorem sizeL_join (a b : Reg) : sizeL (join a b).2 ≤ sizeL a.2 + sizeL b.2 := by
  unfold join
  split
  · simp only; rw [sizeL_append]; omega
  · split
    · simp only; rw [sizeL_append]; omega
    · rename_i h1 h2
      simp only
      obtain ⟨m, hm⟩ : ∃ m, a.2.length = m + 1 := ⟨a.2.length - 1, by omega⟩
      rw [sizeL_append, sizeL_append, sizeL_cons, sizeL_nil, hm, show m + 1 - 1 = m by omega, ByteArray.size_append]
      have h3 := sizeL_take (L := a.2) (i := m) (by omega)
      have h4 := sizeL_le a.2 (m + 1)
      have h5 : sizeL b.2 = sizeL (b.2.take 1) + sizeL (b.2.drop 1) := by rw [← sizeL_append, List.take_append_drop]
      have h6 := sizeL_take (L := b.2) (i := 0) (by omega)
      rw [List.take_zero, sizeL_nil, Nat.zero_add] at h6
      omega

set_option maxHeartbeats 4000000 in
set_option maxRecDepth 100000 in
theorem put_calls (B M : Nat) (f : Nat → Option Reg) (n : Nat) (v : Value) (r : Reg) (w : World) (h : At w B M f) (hv : IsReg w v r) (hlt : n < 256) (hsz : sizeL r.2 ≤ 268435456) (hf : Bd f) :
    Calls Try.prog 23 #[.pointer (some ⟨B, 0, none⟩), .int .u8 (n : Int), v] w fun e w' => e = .returned (.int .i64 (putE f n r : Nat)) ∧ At w' B M (putF f n r) ∧ Only (fun b => b = M) w w' := by
  have hOO : ∀ o1, Only No w (w.alloc o1) := fun o1 => (Only.refl _ w).alloc _
  cases hl : isLetter n with
  | false =>
    have e1 : putE f n r = 23 := by unfold putE; rw [hl]; rfl
    have e2 : putF f n r = f := by unfold putF; rw [if_neg (by rw [e1]; decide)]
    rw [e1, e2]
    obtain ⟨A, m, c, rfl, hL⟩ := hv
    simp only [isLetter, Bool.or_eq_false_iff] at hl
    obtain ⟨hl1, hl2⟩ := hl
    have HL := Lib.hid hL
    clear hL e1 e2
    go_enter Try.func23, Try.ntmps23
    go_wp2_with fail
    refine (named_no B n _ r _ ⟨A, m, c, rfl, HL.out.only (hOO _) (fun _ _ h => h.elim)⟩ hl1 hl2 hlt).mono ?_
    rintro e w1 ⟨rfl, hO⟩
    have hfin := (hOO (.cells #[.int .i64 r.1, .slice A m c] 24)).trans' hO
    go_wp2_with fail
    go_ret
    exact ⟨rfl, h.no (hfin.alloc _), (hfin.alloc _).mono (fun _ _ h => h.elim)⟩
  | true =>
    have hor : isLow n = true ∨ isCap n = true := by simpa [isLetter] using hl
    obtain ⟨A, m, c, rfl, hL⟩ := hv
    have HL := Lib.hid hL
    clear hL
    have hkl : keyL n < 256 := by
      unfold keyL
      split
      · rename_i hc; simp [isCap] at hc; omega
      · omega
    have hns : sizeL (nowR f n r).2 ≤ 268439552 := by
      unfold nowR
      split
      · cases hfn : f (n + 32) with
        | none => simp only; omega
        | some was => simp only; have := sizeL_join was r; have := hf _ _ hfn; omega
      · omega
    have e0 : putE f n r = if 4096 < sizeL (nowR f n r).2 then 21 else 0 := by unfold putE; rw [hl]; rfl
    have eF : putF f n r = if putE f n r = 0 then updR f (keyL n) (some (nowR f n r)) else f := rfl
    generalize putE f n r = pe at *
    generalize putF f n r = pf at *
    have HA := fun (w' : World) (ho : Only No w w') => h.no ho
    clear hl
    have hcB0 := h.box
    go_enter Try.func23, Try.ntmps23
    go_wp2_with fail
    refine (named_yes B M f n _ r _ (h.no (hOO _)) ⟨A, m, c, rfl, HL.out.only (hOO _) (fun _ _ h => h.elim)⟩ hor hsz hf).mono ?_
    rintro e w1 ⟨u, rfl, hu, hO⟩
    obtain ⟨A2, n2, c2, rfl, hl2⟩ := hu
    generalize nowR f n r = now at *
    generalize keyL n = kl at *
    have hO1 := (hOO (.cells #[.int .i64 r.1, .slice A m c] 24)).trans' hO
    have H2 := Lib.hid hl2
    clear hl2
    by_cases hgt : 4096 < sizeL now.2
    · rw [if_pos hgt] at e0
      subst e0
      rw [if_neg (by decide)] at eF
      subst eF
      have g1 : (4096 : Int) < (sizeL now.2 : Nat) := by omega
      go_wp2_with fail
      refine (size_calls _ now _ ⟨A2, n2, c2, rfl, H2.out.only ((Only.refl No _).alloc _) (fun _ _ h => h.elim)⟩ (by omega)).mono ?_
      rintro e w2 ⟨rfl, hO2⟩
      have hfin := (hO1.alloc (.cells #[.int .i64 now.1, .slice A2 n2 c2] 24)).trans' hO2
      go_wp2_with fail
      go_ret
      exact ⟨rfl, HA _ hfin, hfin.mono (fun _ _ h => h.elim)⟩
    · rw [if_neg hgt] at e0
      subst e0
      rw [if_pos rfl] at eF
      subst eF
      have g1 : ¬ (4096 : Int) < (sizeL now.2 : Nat) := by omega
      go_wp2_with fail
      refine (size_calls _ now _ ⟨A2, n2, c2, rfl, H2.out.only ((Only.refl No _).alloc _) (fun _ _ h => h.elim)⟩ (by omega)).mono ?_
      rintro e w2 ⟨rfl, hO2⟩
      have hfin := (hO1.alloc (.cells #[.int .i64 now.1, .slice A2 n2 c2] 24)).trans' hO2
      have hA2 := HA w2.drew hfin.drew
      have hv2 : IsReg w2.drew (.agg #[.int .i64 now.1, .slice A2 n2 c2]) now := ⟨A2, n2, c2, rfl, (H2.out.only ((Only.refl No _).alloc _) (fun _ _ h => h.elim)).only hO2.drew (fun _ _ h => h.elim)⟩
      obtain ⟨w3, hrun, hA3, hO3⟩ := hA2.store hkl hv2
      have hb2 := (hO2.block w1.heap.size (by simp) (fun h => h)).trans (alloc_new w1 _)
      obtain ⟨f0, f1, f2, f3⟩ := reg_cells hb2
      have hcB := cell_of_one (hA2.box)
      have hcB : w2.cell? ⟨B, 0, none⟩ = some (.map (some M)) := hcB
      have HQ := Lib.hid (And.intro hA3 ((hfin.drew.mono (S' := fun b => b = M) (fun _ _ h => h.elim)).trans' hO3))
      clear hA3 hO3 hA2 hv2 hb2 hfin hO1 hO2 hO HA H2 HL hcB0 h f2 f3
      go_wp2_with fail
      go_region
      all_goals (go_wp2; go_ret; exact ⟨rfl, HQ.out.1, HQ.out.2⟩)
end Go.Proofs.Ytgdlplkeafeblaa.Rg
