/- The program's registers: what holds of a file; New, Get. -/
import Derived.Test.YtgdlplkeafeblaaJoin
import Derived.Deep.RegionHeld3
namespace Go.Proofs.Ytgdlplkeafeblaa.Rg
open Go.RowKit Go.Proofs.Ytgdlplkeafeblaa.MapRaw Go.Proofs.Ytgdlplkeafeblaa.Frm Go.Proofs.Ytgdlplkeafeblaa.Lns
set_option linter.unusedVariables false
set_option linter.unusedSimpArgs false
attribute [local go_sem ↓] Go.wp_at_zero Go.wp_at_succ

def regOr (o : Option Reg) : Reg := o.getD (0, [])
/-- A value that may be there is the register that may be there. -/
def Rel (w : World) : Option Value → Option Reg → Prop
  | none, none => True
  | some v, some r => IsReg w v r
  | _, _ => False

/-- At block B lies a file, whose map is block M and holds f. -/
structure At (w : World) (B M : Nat) (f : Nat → Option Reg) : Prop where
  box : w.heap[B]? = some (.cells #[.map (some M)] 59 (0, 0))
  map : ∃ g, Raw Try.prog 5 w M g ∧ ∀ k, Rel w (g k) (f k)

theorem Rel.only {S : Nat → Prop} {w w' : World} {o : Option Value} {p : Option Reg} (h : Rel w o p) (ho : Only S w w') (hS : ∀ b, b < w.heap.size → S b → Bare w b) : Rel w' o p := by
  cases o <;> cases p
  · exact h
  · exact h
  · exact h
  · exact IsReg.only h ho hS
theorem At.lt {w : World} {B M : Nat} {f : Nat → Option Reg} (h : At w B M f) : M < w.heap.size := h.map.elim fun _ h => h.1.lt
theorem At.ne {w : World} {B M : Nat} {f : Nat → Option Reg} (h : At w B M f) : B ≠ M := by
  intro e
  obtain ⟨g, hg, _⟩ := h.map
  obtain ⟨es, clock, h2⟩ := hg.is_map
  rw [← e, h.box] at h2
  cases h2
theorem At.only {S : Nat → Prop} {w w' : World} {B M : Nat} {f : Nat → Option Reg} (h : At w B M f) (ho : Only S w w') (hS : ∀ b, b < w.heap.size → S b → Bare w b) (hB : ¬ S B) (hM : ¬ S M) : At w' B M f := by
  obtain ⟨g, hg, hr⟩ := h.map
  exact ⟨(ho.block B (heap_lt h.box) hB).trans h.box, g, hg.block (ho.block M hg.lt hM), fun k => (hr k).only ho hS⟩
theorem At.no {w w' : World} {B M : Nat} {f : Nat → Option Reg} (h : At w B M f) (ho : Only No w w') : At w' B M f := h.only ho (fun _ _ h => h.elim) (fun h => h) (fun h => h)
theorem At.bare {w : World} {B M : Nat} {f : Nat → Option Reg} (h : At w B M f) : Bare w M := by
  obtain ⟨g, hg, hr⟩ := h.map
  obtain ⟨es, clock, h2⟩ := hg.is_map
  exact bare_map h2
def updR (f : Nat → Option Reg) (k : Nat) (r : Option Reg) : Nat → Option Reg := fun j => if j = k then r else f j

theorem At.look {w : World} {B M : Nat} {f : Nat → Option Reg} (h : At w B M f) {k : Nat} (hk : k < 256) :
    ∃ A n c, (Instr.lookup 57 (.map (some M)) (.int .u8 (k : Int)) true).run Try.prog w = .ok (.tuple #[.agg #[.int .i64 (regOr (f k)).1, .slice A n c], .bool (f k).isSome]) w ∧ Lines w A n c (regOr (f k)).2 := by
  obtain ⟨g, hg, hr⟩ := h.map
  have hz : (zeroValue 24).run Try.prog w = .ok (.agg #[.int .i64 0, .slice none 0 0]) w := by kernel_rfl
  have hlook := hg.look (t := 57) Try.underlying5 Try.underlying57 hz hk
  have hk2 := hr k
  generalize g k = gk at *
  generalize f k = fk at *
  cases gk <;> cases fk
  · exact ⟨none, 0, 0, hlook, rfl, Nat.le_refl _, Nat.zero_le _, fun _ => rfl, .inl rfl⟩
  · exact hk2.elim
  · exact hk2.elim
  · obtain ⟨A, n, c, rfl, hl⟩ := hk2
    exact ⟨A, n, c, hlook, hl⟩

theorem At.store {w : World} {B M : Nat} {f : Nat → Option Reg} (h : At w B M f) {k : Nat} (hk : k < 256) {v : Value} {r : Reg} (hv : IsReg w v r) :
    ∃ w2, (Instr.mapUpdate 57 (.map (some M)) (.int .u8 (k : Int)) v).run Try.prog w = .ok () w2 ∧ At w2 B M (updR f k (some r)) ∧ Only (fun b => b = M) w w2 := by
  have hne := h.ne
  have hbare := h.bare
  obtain ⟨g, hg, hr⟩ := h.map
  obtain ⟨w2, hrun, hraw, hturn⟩ := Raw.store (t := 57) hg Try.underlying5 Try.underlying57 hk v
  have ho := Only.of_turned hturn
  have hS : ∀ b, b < w.heap.size → b = M → Bare w b := fun b _ e => by subst e; exact hbare
  refine ⟨w2, hrun, ⟨(turned_block hturn hne).trans h.box, _, hraw, fun j => ?_⟩, ho⟩
  unfold upd updR
  by_cases e : j = k
  · rw [if_pos e, if_pos e]
    exact hv.only ho hS
  · rw [if_neg e, if_neg e]
    exact (hr j).only ho hS

set_option maxHeartbeats 1000000 in
theorem new_calls (w : World) : Calls Try.prog 17 #[] w fun e w' => e = .returned (.pointer (some ⟨w.heap.size + 1, 0, none⟩)) ∧ At w' (w.heap.size + 1) w.heap.size (fun _ => none) ∧ Only No w w' := by
  have hmm := @run_makeMap Try.prog
  go_enter Try.func17, Try.ntmps17
  go_wp2
  go_ret
  refine ⟨rfl, ⟨?_, fun _ => none, ?_, fun _ => trivial⟩, ((Only.refl _ _).alloc _).alloc _⟩
  · have := alloc_new (w.alloc (.map #[] 0)) (.cells #[.map (some w.heap.size)] 59)
    simpa using this
  · exact (raw_made w).block (Below.heap_alloc _ _ _ (by simp))

/-- The name under which a register lies. -/
def keyOf (n : Nat) : Nat := if n = 0 then 34 else if 65 ≤ n ∧ n ≤ 90 then n + 32 else n
theorem keyOf_lt {n : Nat} (h : n < 256) : keyOf n < 256 := by
  unfold keyOf; repeat' split
  all_goals omega

set_option maxHeartbeats 2000000 in
set_option maxRecDepth 100000 in
theorem get_calls (B M : Nat) (f : Nat → Option Reg) (n : Nat) (w : World) (h : At w B M f) (hlt : n < 256) (hlen : (regOr (f (keyOf n))).2.length ≤ 1099511627776) :
    Calls Try.prog 19 #[.pointer (some ⟨B, 0, none⟩), .int .u8 (n : Int)] w fun e w' => ∃ v, e = .returned (.tuple #[v, .bool (f (keyOf n)).isSome]) ∧ IsReg w' v (regOr (f (keyOf n))) ∧ Only No w w' := by
  obtain ⟨W, hW⟩ : ∃ W, w.alloc (.cells #[.int .i64 0, .slice none 0 0] 24) = W := ⟨_, rfl⟩
  have hOW : Only No w W := by rw [← hW]; exact (Only.refl _ _).alloc _
  have hWs : W.heap.size = w.heap.size + 1 := by rw [← hW]; simp
  have hf : W.heap[w.heap.size]? = some (.cells #[.int .i64 0, .slice none 0 0] 24 (0, 0)) := by rw [← hW]; exact alloc_new _ _
  have hA := h.no hOW
  have hcB := cell_of_one hA.box
  obtain ⟨A, m, c, hlook, hl⟩ := hA.look (keyOf_lt hlt)
  have hm := hl.len
  have HL := Lib.hid hl
  have HF := Lib.hid hf
  have HW := Lib.hid hWs
  have HO := Lib.hid hOW
  generalize hb : (f (keyOf n)).isSome = bb at *
  generalize hr : regOr (f (keyOf n)) = r at *
  obtain ⟨k, L⟩ := r
  simp only at hm hlen hlook
  subst hm
  clear h hA hl hf hb hr hWs hOW
  have hcase : (n = 0 ∧ keyOf n = 34) ∨ ((n ≠ 0 ∧ 65 ≤ n ∧ n ≤ 90) ∧ keyOf n = n + 32) ∨ ((n ≠ 0 ∧ n < 65) ∧ keyOf n = n) ∨ ((n ≠ 0 ∧ 65 ≤ n ∧ 90 < n) ∧ keyOf n = n) := by
    unfold keyOf
    by_cases h0 : n = 0
    · simp [h0]
    · by_cases h1 : 65 ≤ n
      · by_cases h2 : n ≤ 90
        · simp [h0, h1, h2]
        · simp [h0, h1, h2]; omega
      · simp [h0, h1]; omega
  have hg : (n = 0 ∨ ((((n : Int)) == 0) = false ∧ ((65 ≤ (n : Int) ∧ (n : Int) ≤ 90) ∨ (n : Int) < 65 ∨ (65 ≤ (n : Int) ∧ 90 < (n : Int))))) := by
    by_cases h0 : n = 0
    · exact .inl h0
    · right
      refine ⟨by rw [beq_eq_false_iff_ne]; omega, by omega⟩
  subst hW
  rcases hcase with ⟨rfl, e⟩ | ⟨⟨h0, h1, h2⟩, e⟩ | ⟨⟨h0, h1⟩, e⟩ | ⟨⟨h0, h1, h2⟩, e⟩
  all_goals rw [e] at hlook
  · rw [show ((34 : Nat) : Int) = 34 from rfl] at hlook
    clear hg e
    go_enter Try.func19, Try.ntmps19
    go_wp2_with fail
    refine (clone_calls _ (k, L) _ ⟨A, L.length, c, rfl, HL.out.only ((Only.refl No _).alloc _) (fun _ _ h => h.elim)⟩ hlen).mono ?_
    rintro e w2 ⟨v, rfl, hv, hO2⟩
    obtain ⟨A2, n2, c2, rfl, hl2⟩ := hv
    have hf2 := (hO2.block w.heap.size (by simp; try omega) (fun h => h)).trans ((Below.heap_alloc _ _ _ (by simp; try omega)).trans HF.out)
    obtain ⟨f0, f1, f2, f3⟩ := reg_cells hf2
    obtain ⟨q0, q1, q2, q3⟩ := store_reg (k := k) hf2 hl2
    have hfin : Only No w _ := ((HO.out.alloc (.cells #[.int .i64 k, .slice A L.length c] 24)).trans' hO2).trans q1 (fun j hj e => by omega)
    have HQ := Lib.hid (And.intro q0 (And.intro q2 (And.intro q3 hfin)))
    clear q0 q1 q2 q3 hfin hf2 hO2 hl2 HL HF HO HW hlook hcB
    go_wp2
    obtain ⟨q0, q2, q3, hfin⟩ := HQ.out
    exact bodyPost_ret (v := .tuple #[.agg #[.int .i64 k, .slice A2 n2 c2], .bool bb]) (by simp [results, Try.results19, go_sem, q2, q3]) rfl ⟨_, rfl, ⟨A2, n2, c2, rfl, q0⟩, hfin⟩
  · have g1 : ((n : Int) == 0) = false := by rw [beq_eq_false_iff_ne]; omega
    have g2 : (65 : Int) ≤ (n : Int) := by omega
    have g3 : (n : Int) ≤ 90 := by omega
    rw [show ((n + 32 : Nat) : Int) = (n : Int) + 32 by omega] at hlook
    clear hg e
    go_enter Try.func19, Try.ntmps19
    go_wp2_with fail
    refine (clone_calls _ (k, L) _ ⟨A, L.length, c, rfl, HL.out.only ((Only.refl No _).alloc _) (fun _ _ h => h.elim)⟩ hlen).mono ?_
    rintro e w2 ⟨v, rfl, hv, hO2⟩
    obtain ⟨A2, n2, c2, rfl, hl2⟩ := hv
    have hf2 := (hO2.block w.heap.size (by simp; try omega) (fun h => h)).trans ((Below.heap_alloc _ _ _ (by simp; try omega)).trans HF.out)
    obtain ⟨f0, f1, f2, f3⟩ := reg_cells hf2
    obtain ⟨q0, q1, q2, q3⟩ := store_reg (k := k) hf2 hl2
    have hfin : Only No w _ := ((HO.out.alloc (.cells #[.int .i64 k, .slice A L.length c] 24)).trans' hO2).trans q1 (fun j hj e => by omega)
    have HQ := Lib.hid (And.intro q0 (And.intro q2 (And.intro q3 hfin)))
    clear q0 q1 q2 q3 hfin hf2 hO2 hl2 HL HF HO HW hlook hcB
    go_wp2
    obtain ⟨q0, q2, q3, hfin⟩ := HQ.out
    exact bodyPost_ret (v := .tuple #[.agg #[.int .i64 k, .slice A2 n2 c2], .bool bb]) (by simp [results, Try.results19, go_sem, q2, q3]) rfl ⟨_, rfl, ⟨A2, n2, c2, rfl, q0⟩, hfin⟩
  · have g1 : ((n : Int) == 0) = false := by rw [beq_eq_false_iff_ne]; omega
    have g2 : (n : Int) < 65 := by omega
    clear hg e
    go_enter Try.func19, Try.ntmps19
    go_wp2_with fail
    refine (clone_calls _ (k, L) _ ⟨A, L.length, c, rfl, HL.out.only ((Only.refl No _).alloc _) (fun _ _ h => h.elim)⟩ hlen).mono ?_
    rintro e w2 ⟨v, rfl, hv, hO2⟩
    obtain ⟨A2, n2, c2, rfl, hl2⟩ := hv
    have hf2 := (hO2.block w.heap.size (by simp; try omega) (fun h => h)).trans ((Below.heap_alloc _ _ _ (by simp; try omega)).trans HF.out)
    obtain ⟨f0, f1, f2, f3⟩ := reg_cells hf2
    obtain ⟨q0, q1, q2, q3⟩ := store_reg (k := k) hf2 hl2
    have hfin : Only No w _ := ((HO.out.alloc (.cells #[.int .i64 k, .slice A L.length c] 24)).trans' hO2).trans q1 (fun j hj e => by omega)
    have HQ := Lib.hid (And.intro q0 (And.intro q2 (And.intro q3 hfin)))
    clear q0 q1 q2 q3 hfin hf2 hO2 hl2 HL HF HO HW hlook hcB
    go_wp2
    obtain ⟨q0, q2, q3, hfin⟩ := HQ.out
    exact bodyPost_ret (v := .tuple #[.agg #[.int .i64 k, .slice A2 n2 c2], .bool bb]) (by simp [results, Try.results19, go_sem, q2, q3]) rfl ⟨_, rfl, ⟨A2, n2, c2, rfl, q0⟩, hfin⟩
  · have g1 : ((n : Int) == 0) = false := by rw [beq_eq_false_iff_ne]; omega
    have g2 : (65 : Int) ≤ (n : Int) := by omega
    have g3 : (90 : Int) < (n : Int) := by omega
    clear hg e
    go_enter Try.func19, Try.ntmps19
    go_wp2_with fail
    refine (clone_calls _ (k, L) _ ⟨A, L.length, c, rfl, HL.out.only ((Only.refl No _).alloc _) (fun _ _ h => h.elim)⟩ hlen).mono ?_
    rintro e w2 ⟨v, rfl, hv, hO2⟩
    obtain ⟨A2, n2, c2, rfl, hl2⟩ := hv
    have hf2 := (hO2.block w.heap.size (by simp; try omega) (fun h => h)).trans ((Below.heap_alloc _ _ _ (by simp; try omega)).trans HF.out)
    obtain ⟨f0, f1, f2, f3⟩ := reg_cells hf2
    obtain ⟨q0, q1, q2, q3⟩ := store_reg (k := k) hf2 hl2
    have hfin : Only No w _ := ((HO.out.alloc (.cells #[.int .i64 k, .slice A L.length c] 24)).trans' hO2).trans q1 (fun j hj e => by omega)
    have HQ := Lib.hid (And.intro q0 (And.intro q2 (And.intro q3 hfin)))
    clear q0 q1 q2 q3 hfin hf2 hO2 hl2 HL HF HO HW hlook hcB
    go_wp2
    obtain ⟨q0, q2, q3, hfin⟩ := HQ.out
    exact bodyPost_ret (v := .tuple #[.agg #[.int .i64 k, .slice A2 n2 c2], .bool bb]) (by simp [results, Try.results19, go_sem, q2, q3]) rfl ⟨_, rfl, ⟨A2, n2, c2, rfl, q0⟩, hfin⟩
end Go.Proofs.Ytgdlplkeafeblaa.Rg
