/- The program's marks: New, Set, Get, walked. -/
import Derived.Test.YtlmghmndojfjpaaProg
import Derived.Test.YtlmghmndojfjpaaFrame
import Derived.WalkSpells
import Derived.RegionTactic
import Derived.ChangeAlike
import Derived.StillTailTactics
import Derived.BigRegion
namespace Go.Proofs.Ytlmghmndojfjpaa.Mk
open Go.RowKit Go.Proofs.Ytlmghmndojfjpaa.MapRaw Go.Proofs.Ytlmghmndojfjpaa.Frm
set_option linter.unusedVariables false
set_option linter.unusedSimpArgs false

def posV (p : Int × Int) : Value := .agg #[.int .i64 p.1, .int .i64 p.2]

/-- At block B lies a marks struct, whose map is block M and holds f. -/
structure At (w : World) (B M : Nat) (f : Nat → Option (Int × Int)) : Prop where
  box : w.heap[B]? = some (.cells #[.map (some M)] 53 (0, 0))
  map : Raw Try.prog 5 w M (fun k => (f k).map posV)

theorem At.of {w w' : World} {B M : Nat} {f : Nat → Option (Int × Int)} (h : At w B M f) (h1 : w'.heap[B]? = w.heap[B]?) (h2 : w'.heap[M]? = w.heap[M]?) : At w' B M f := ⟨h1.trans h.box, h.map.block h2⟩

theorem At.ne {w : World} {B M : Nat} {f : Nat → Option (Int × Int)} (h : At w B M f) : B ≠ M := by
  intro e
  obtain ⟨es, clock, h2⟩ := h.map.is_map
  rw [← e, h.box] at h2
  cases h2

theorem upd_map (f : Nat → Option (Int × Int)) (k : Nat) (v : Option (Int × Int)) : (fun j => ((fun i => if i = k then v else f i) j).map posV) = upd (fun j => (f j).map posV) k (v.map posV) := by
  funext j
  unfold upd
  by_cases e : j = k <;> simp [e]

set_option maxHeartbeats 1000000 in
theorem new_calls (w : World) : Calls Try.prog 11 #[] w fun e w' => e = .returned (.pointer (some ⟨w.heap.size + 1, 0, none⟩)) ∧ At w' (w.heap.size + 1) w.heap.size (fun _ => none) ∧ Only No w w' := by
  have hmm := @run_makeMap Try.prog
  go_enter Try.func11, Try.ntmps11
  go_wp2
  go_ret
  refine ⟨rfl, ⟨?_, ?_⟩, ((Only.refl _ _).alloc _).alloc _⟩
  · have := alloc_new (w.alloc (.map #[] 0)) (.cells #[.map (some w.heap.size)] 53)
    simpa using this
  · exact (raw_made w).block (Below.heap_alloc _ _ _ (by simp))

/-- Which names a mark may have. -/
def okName (k : Nat) : Bool := k == 96 || (decide (97 ≤ k) && decide (k ≤ 122))

set_option maxHeartbeats 2000000 in
theorem set_no (B : Nat) (k : Nat) (p : Int × Int) (w : World) (hk : okName k = false) (hlt : k < 256) :
    Calls Try.prog 12 #[.pointer (some ⟨B, 0, none⟩), .int .u8 (k : Int), posV p] w fun e w' => e = .returned (.bool false) ∧ Only No w w' := by
  unfold posV
  have h1 : k ≠ 96 := by rintro rfl; exact absurd hk (by decide)
  have h2 : ¬ (97 ≤ k ∧ k ≤ 122) := by
    rintro ⟨h2, h3⟩
    simp [okName, h2, h3] at hk
  have g1 : (((k : Int)) != 96) = true := by rw [bne_iff_ne]; omega
  have g2 : (((k : Int)) == 96) = false := by rw [beq_eq_false_iff_ne]; omega
  by_cases h3 : k < 97
  · go_enter Try.func12, Try.ntmps12
    go_wp2
    go_ret
    exact ⟨rfl, (Only.refl _ _).alloc _⟩
  · have h4 : ¬ ((k : Int) < 97) := by omega
    have h5 : 122 < (k : Int) := by omega
    go_enter Try.func12, Try.ntmps12
    go_wp2
    go_ret
    exact ⟨rfl, (Only.refl _ _).alloc _⟩

set_option maxHeartbeats 2000000 in
theorem set_yes (B M : Nat) (f : Nat → Option (Int × Int)) (k : Nat) (p : Int × Int) (w : World) (h : At w B M f) (hk : okName k = true) :
    Calls Try.prog 12 #[.pointer (some ⟨B, 0, none⟩), .int .u8 (k : Int), posV p] w fun e w' => e = .returned (.bool true) ∧ At w' B M (fun j => if j = k then some p else f j) ∧ Only (fun b => b = M) w w' := by
  have hlt : k < 256 := by
    simp [okName] at hk
    omega
  have hBs := heap_lt h.box
  have hMs := h.map.lt
  have hne := h.ne
  obtain ⟨W, hW⟩ : ∃ W, w.alloc (.cells #[.int .i64 p.1, .int .i64 p.2] 37) = W := ⟨_, rfl⟩
  have hWB : W.heap[B]? = some (.cells #[.map (some M)] 53 (0, 0)) := by rw [← hW]; exact (Below.heap_alloc _ _ _ hBs).trans h.box
  have hWM : Raw Try.prog 5 W M (fun k => (f k).map posV) := h.map.block (by rw [← hW]; exact Below.heap_alloc _ _ _ hMs)
  obtain ⟨w2, hrun, hraw, hturn⟩ := Raw.store (w := W.drew) (t := 51) (hWM.block rfl) Try.underlying5 Try.underlying51 hlt (posV p)
  have hb2 : w2.heap[B]? = some (.cells #[.map (some M)] 53 (0, 0)) := (turned_block hturn hne).trans hWB
  have hin : (k = 96) ∨ (k ≠ 96 ∧ 97 ≤ k ∧ k ≤ 122) := by
    simp [okName] at hk
    omega
  have hfin : At w2 B M (fun j => if j = k then some p else f j) := ⟨hb2, by rw [upd_map f k (some p)]; exact hraw⟩
  have honly : Only (fun b => b = M) w w2 := by
    refine Only.turned (b := W.drew) ?_ hturn (.inr rfl)
    rw [← hW]
    exact ((Only.refl _ _).alloc _).drew
  unfold posV at *
  have hcB := cell_of_one hWB
  have hfB := free_of_one hWB
  clear hWM hraw hturn hb2 h hWB
  have hp0 : W.cell? ⟨w.heap.size, 0, none⟩ = some (.int .i64 p.1) := by rw [← hW, cell_new]; rfl
  have hp1 : W.cell? ⟨w.heap.size, 0 + 1, none⟩ = some (.int .i64 p.2) := by rw [← hW, cell_new]; rfl
  rcases hin with h1 | ⟨h1, h2, h3⟩
  · have g1 : (((k : Int)) != 96) = false := by rw [bne_eq_false_iff_eq]; omega
    clear h1
    go_enter Try.func12, Try.ntmps12
    go_wp2
    go_region
    all_goals (go_wp2; go_ret; exact ⟨rfl, hfin, honly⟩)
  · have g1 : (((k : Int)) != 96) = true := by rw [bne_iff_ne]; omega
    have g2 : ¬ ((k : Int) < 97) := by omega
    have g3 : ¬ (122 < (k : Int)) := by omega
    clear h1 h2 h3
    go_enter Try.func12, Try.ntmps12
    go_wp2
    go_region
    all_goals (go_wp2; go_ret; exact ⟨rfl, hfin, honly⟩)

def posOr (o : Option (Int × Int)) : Int × Int := o.getD (0, 0)

set_option maxHeartbeats 2000000 in
theorem get_calls (B M : Nat) (f : Nat → Option (Int × Int)) (k : Nat) (w : World) (h : At w B M f) (hlt : k < 256) :
    Calls Try.prog 16 #[.pointer (some ⟨B, 0, none⟩), .int .u8 (k : Int)] w fun e w' => e = .returned (.tuple #[posV (posOr (f k)), .bool (f k).isSome]) ∧ Only No w w' := by
  have hBs := heap_lt h.box
  have hMs := h.map.lt
  obtain ⟨W, hW⟩ : ∃ W, w.alloc (.cells #[.int .i64 0, .int .i64 0] 37) = W := ⟨_, rfl⟩
  have hWB : W.heap[B]? = some (.cells #[.map (some M)] 53 (0, 0)) := by rw [← hW]; exact (Below.heap_alloc _ _ _ hBs).trans h.box
  have hWM : Raw Try.prog 5 W M (fun k => (f k).map posV) := h.map.block (by rw [← hW]; exact Below.heap_alloc _ _ _ hMs)
  have hz : (zeroValue 37).run Try.prog W = .ok (.agg #[.int .i64 0, .int .i64 0]) W := by kernel_rfl
  have hlook := hWM.look (t := 51) Try.underlying5 Try.underlying51 hz hlt
  have e1 : ((f k).map posV).getD (.agg #[.int .i64 0, .int .i64 0]) = .agg #[.int .i64 (posOr (f k)).1, .int .i64 (posOr (f k)).2] := by
    cases f k <;> rfl
  have e2 : ((f k).map posV).isSome = (f k).isSome := by cases f k <;> rfl
  simp only [e1, e2] at hlook
  unfold posV
  generalize (f k).isSome = bb at *
  generalize posOr (f k) = q at *
  have hcB := cell_of_one hWB
  clear e1 e2 hWM hz hWB h
  subst hW
  go_enter Try.func16, Try.ntmps16
  go_wp2
  exact bodyPost_ret (v := .tuple #[.agg #[.int .i64 q.1, .int .i64 q.2], .bool bb]) (by simp [results, Try.results16, go_sem]) rfl ⟨rfl, ((Only.refl _ _).alloc _).alloc _⟩
end Go.Proofs.Ytlmghmndojfjpaa.Mk
