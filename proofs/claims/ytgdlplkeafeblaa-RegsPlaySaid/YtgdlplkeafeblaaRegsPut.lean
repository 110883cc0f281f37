/- The program's registers: named, Put. -/
import Derived.Test.YtgdlplkeafeblaaRegsBase
namespace Go.Proofs.Ytgdlplkeafeblaa.Rg
open Go.RowKit Go.Proofs.Ytgdlplkeafeblaa.MapRaw Go.Proofs.Ytgdlplkeafeblaa.Frm Go.Proofs.Ytgdlplkeafeblaa.Lns
set_option linter.unusedVariables false
set_option linter.unusedSimpArgs false
attribute [local go_sem ↓] Go.wp_at_zero Go.wp_at_succ

def isLow (n : Nat) : Bool := decide (97 ≤ n) && decide (n ≤ 122)
def isCap (n : Nat) : Bool := decide (65 ≤ n) && decide (n ≤ 90)
/-- What a letter's register is to be. -/
def nowR (f : Nat → Option Reg) (n : Nat) (r : Reg) : Reg := if isCap n then (match f (n + 32) with | some was => join was r | none => r) else r
def keyL (n : Nat) : Nat := if isCap n then n + 32 else n
theorem length_le_sizeL (L : List ByteArray) : L.length ≤ sizeL L := by
  induction L with
  | nil => exact Nat.le_refl _
  | cons a l ih => rw [sizeL_cons, List.length_cons]; omega
/-- No register is great. -/
def Bd (f : Nat → Option Reg) : Prop := ∀ k r, f k = some r → sizeL r.2 ≤ 4096

set_option maxHeartbeats 2000000 in
set_option maxRecDepth 100000 in
theorem named_no (B n : Nat) (v : Value) (r : Reg) (w : World) (hv : IsReg w v r) (hl : isLow n = false) (hc : isCap n = false) (hlt : n < 256) :
    Calls Try.prog 36 #[.pointer (some ⟨B, 0, none⟩), .int .u8 (n : Int), v] w fun e w' => e = .returned (.tuple #[.int .u8 0, .agg #[.int .i64 0, .slice none 0 0], .bool false]) ∧ Only No w w' := by
  obtain ⟨A, m, c, rfl, hL⟩ := hv
  have hcase : ((n : Int) < 65) ∨ ((65 ≤ (n : Int)) ∧ (90 < (n : Int)) ∧ ((n : Int) < 97)) ∨ ((65 ≤ (n : Int)) ∧ (90 < (n : Int)) ∧ (97 ≤ (n : Int)) ∧ (122 < (n : Int))) := by
    simp [isLow, isCap] at hl hc; omega
  clear hl hc
  rcases hcase with h1 | ⟨h1, h2, h3⟩ | ⟨h1, h2, h3, h4⟩
  all_goals (
    go_enter Try.func36, Try.ntmps36
    go_wp2_with fail
    exact bodyPost_ret (v := .tuple #[.int .u8 0, .agg #[.int .i64 0, .slice none 0 0], .bool false]) (by simp [results, Try.results36, go_sem]) rfl ⟨rfl, ((Only.refl _ w).alloc _).alloc _⟩)

set_option maxHeartbeats 4000000 in
set_option maxRecDepth 100000 in
theorem named_yes (B M : Nat) (f : Nat → Option Reg) (n : Nat) (v : Value) (r : Reg) (w : World) (h : At w B M f) (hv : IsReg w v r) (hnm : isLow n = true ∨ isCap n = true) (hsz : sizeL r.2 ≤ 268435456) (hf : Bd f) :
    Calls Try.prog 36 #[.pointer (some ⟨B, 0, none⟩), .int .u8 (n : Int), v] w fun e w' => ∃ u, e = .returned (.tuple #[.int .u8 (keyL n : Nat), u, .bool true]) ∧ IsReg w' u (nowR f n r) ∧ Only No w w' := by
  obtain ⟨A, m, c, rfl, hl⟩ := hv
  have hlen := length_le_sizeL r.2
  have hm := hl.len
  obtain ⟨k, L⟩ := r
  simp only at hsz hlen hm hl
  subst hm
  have HL := Lib.hid hl
  have hOO : ∀ o1 o2, Only No w ((w.alloc o1).alloc o2) := fun o1 o2 => ((Only.refl _ w).alloc _).alloc _
  cases hcap : isCap n with
  | false =>
    have hlow : isLow n = true := hnm.resolve_right (by rw [hcap]; simp)
    have e1 : nowR f n (k, L) = (k, L) := by unfold nowR; rw [hcap]; rfl
    have e2 : keyL n = n := by unfold keyL; rw [hcap]; rfl
    rw [e1, e2]
    have g1 : (97 : Int) ≤ (n : Int) := by simp [isLow] at hlow; omega
    have g2 : (n : Int) ≤ 122 := by simp [isLow] at hlow; omega
    clear hcap hlow hnm h hl e1 e2
    go_enter Try.func36, Try.ntmps36
    go_wp2_with fail
    refine (clone_calls _ (k, L) _ ⟨A, L.length, c, rfl, HL.out.only (hOO _ _) (fun _ _ h => h.elim)⟩ (by simp only; omega)).mono ?_
    rintro e w2 ⟨v, rfl, hv, hO2⟩
    obtain ⟨A2, n2, c2, rfl, hl2⟩ := hv
    have hf2 := (hO2.block (w.heap.size + 1) (by simp; try omega) (fun h => h)).trans (alloc_at (by simp) _)
    obtain ⟨f0, f1, f2, f3⟩ := reg_cells hf2
    obtain ⟨q0, q1, q2, q3⟩ := store_reg (k := k) hf2 hl2
    have hfin : Only No w _ := ((hOO _ _).trans' hO2).trans q1 (fun j hj e => by omega)
    have HQ := Lib.hid (And.intro q0 (And.intro q2 (And.intro q3 hfin)))
    clear q0 q1 q2 q3 hfin hf2 hO2 hl2
    go_wp2
    obtain ⟨q0, q2, q3, hfin⟩ := HQ.out
    exact bodyPost_ret (v := .tuple #[.int .u8 (n : Int), .agg #[.int .i64 k, .slice A2 n2 c2], .bool true]) (by simp [results, Try.results36, go_sem, q2, q3]) rfl ⟨_, rfl, ⟨A2, n2, c2, rfl, q0⟩, hfin⟩
  | true =>
    have e2 : keyL n = n + 32 := by unfold keyL; rw [hcap]; rfl
    have g1 : (65 : Int) ≤ (n : Int) := by simp [isCap] at hcap; omega
    have g2 : (n : Int) ≤ 90 := by simp [isCap] at hcap; omega
    have g3 : ¬ (97 : Int) ≤ (n : Int) := by omega
    have g4 : (n : Int) < 97 := by omega
    have e1 : nowR f n (k, L) = match f (n + 32) with | some was => join was (k, L) | none => (k, L) := by unfold nowR; rw [hcap]; rfl
    rw [e1, e2]
    obtain ⟨W, hW⟩ : ∃ W, (w.alloc (.cells #[.int .i64 k, .slice A L.length c] 24)).alloc (.cells #[.int .i64 0, .slice none 0 0] 24) = W := ⟨_, rfl⟩
    have hAW : At W B M f := by rw [← hW]; exact h.no (hOO _ _)
    have hcB := cell_of_one hAW.box
    obtain ⟨A', m', c', hlook, hl'⟩ := hAW.look (show n + 32 < 256 by omega)
    have hm' := hl'.len
    subst hm'
    have HL' := Lib.hid hl'
    have hf' := fun was (e : f (n + 32) = some was) => hf (n + 32) was e
    rw [show ((n + 32 : Nat) : Int) = (n : Int) + 32 by omega] at hlook ⊢
    clear hcap hnm h hl e1 e2 hAW hl' hf
    subst hW
    cases hfn : f (n + 32) with
    | none =>
      rw [hfn] at hlook HL'
      simp only [regOr, Option.getD_none, Option.isSome_none] at hlook HL'
      clear hf' hfn
      go_enter Try.func36, Try.ntmps36
      go_wp2_with fail
      refine (clone_calls _ (k, L) _ ⟨A, L.length, c, rfl, HL.out.only ((hOO _ _).alloc _) (fun _ _ h => h.elim)⟩ (by simp only; omega)).mono ?_
      rintro e w2 ⟨v, rfl, hv, hO2⟩
      obtain ⟨A2, n2, c2, rfl, hl2⟩ := hv
      have hf2 := (hO2.block (w.heap.size + 1) (by simp; try omega) (fun h => h)).trans ((Below.heap_alloc _ _ _ (by simp)).trans (alloc_at (by simp) _))
      obtain ⟨f0, f1, f2, f3⟩ := reg_cells hf2
      obtain ⟨q0, q1, q2, q3⟩ := store_reg (k := k) hf2 hl2
      have hfin : Only No w _ := (((hOO _ _).alloc _).trans' hO2).trans q1 (fun j hj e => by omega)
      have HQ := Lib.hid (And.intro q0 (And.intro q2 (And.intro q3 hfin)))
      clear q0 q1 q2 q3 hfin hf2 hO2 hl2
      go_wp2
      obtain ⟨q0, q2, q3, hfin⟩ := HQ.out
      exact bodyPost_ret (v := .tuple #[.int .u8 ((n : Int) + 32), .agg #[.int .i64 k, .slice A2 n2 c2], .bool true]) (by simp [results, Try.results36, go_sem, q2, q3]) rfl ⟨_, rfl, ⟨A2, n2, c2, rfl, q0⟩, hfin⟩
    | some was =>
      rw [hfn] at hlook HL'
      simp only [regOr, Option.getD_some, Option.isSome_some] at hlook HL'
      have hws := hf' was hfn
      have hwl := length_le_sizeL was.2
      clear hf' hfn
      go_enter Try.func36, Try.ntmps36
      go_wp2_with fail
      refine (join_calls _ _ was (k, L) _ ⟨A', was.2.length, c', rfl, HL'.out.only ((Only.refl No _).alloc _) (fun _ _ h => h.elim)⟩ ⟨A, L.length, c, rfl, HL.out.only ((hOO _ _).alloc _) (fun _ _ h => h.elim)⟩ (by omega) (by simp only; omega) (by omega) (by simp only; omega)).mono ?_
      rintro e w2 ⟨v, rfl, hv, hO2⟩
      obtain ⟨A2, n2, c2, rfl, hl2⟩ := hv
      have hf2 := (hO2.block (w.heap.size + 1) (by simp; try omega) (fun h => h)).trans ((Below.heap_alloc _ _ _ (by simp)).trans (alloc_at (by simp) _))
      obtain ⟨f0, f1, f2, f3⟩ := reg_cells hf2
      obtain ⟨q0, q1, q2, q3⟩ := store_reg (k := (join was (k, L)).1) hf2 hl2
      have hfin : Only No w _ := (((hOO _ _).alloc _).trans' hO2).trans q1 (fun j hj e => by omega)
      have HQ := Lib.hid (And.intro q0 (And.intro q2 (And.intro q3 hfin)))
      clear q0 q1 q2 q3 hfin hf2 hO2 hl2
      go_wp2
      obtain ⟨q0, q2, q3, hfin⟩ := HQ.out
      exact bodyPost_ret (v := .tuple #[.int .u8 ((n : Int) + 32), .agg #[.int .i64 (join was (k, L)).1, .slice A2 n2 c2], .bool true]) (by simp [results, Try.results36, go_sem, q2, q3]) rfl ⟨_, rfl, ⟨A2, n2, c2, rfl, q0⟩, hfin⟩
end Go.Proofs.Ytgdlplkeafeblaa.Rg
