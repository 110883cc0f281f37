/- slices.Grow of nil, slices.Concat, at strings. -/
import Derived.Test.YtgdlplkeafeblaaAppend
namespace Go.Proofs.Ytgdlplkeafeblaa.Lns
open Go.RowKit Go.Proofs.Ytgdlplkeafeblaa.MapRaw Go.Proofs.Ytgdlplkeafeblaa.Frm
set_option linter.unusedVariables false
set_option linter.unusedSimpArgs false

theorem Own.below {w w' : World} {base : Nat} {v : Value} {L : List ByteArray} (h : Own w base v L) (hb : Below w.heap.size w w') : Own w' base v L := h.only (Only.of_below (S := No) hb) (fun _ _ h => h)
theorem Own.lower {w : World} {base base' : Nat} {v : Value} {L : List ByteArray} (h : Own w base v L) (hb : base' ≤ base) : Own w base' v L := by
  refine ⟨h.1, ?_⟩
  rcases h.2 with h0 | ⟨g, cap, cur, rfl, hg, hh, h1⟩
  · exact .inl h0
  · exact .inr ⟨g, cap, cur, rfl, by omega, hh, h1⟩

set_option maxHeartbeats 1000000 in
set_option maxRecDepth 100000 in
theorem grow_nil (m : Nat) (w : World) (hm : m ≤ 1099511627776) :
    Calls Try.prog 39 #[.slice none 0 0, .int .i64 (m : Int)] w fun e w' => ∃ v, e = .returned v ∧ Own w' w.heap.size v [] ∧ Only No w w' := by
  have hi := infoStr
  cases hinf : Try.prog.info? 9 with
  | none => rw [hinf] at hi; cases hi
  | some i =>
    rw [hinf] at hi
    simp at hi
    obtain ⟨hz, hs, hb⟩ := hi
    rcases Nat.eq_zero_or_pos m with rfl | hp
    · go_enter Try.func39, Try.ntmps39
      go_wp2_with fail
      go_ret
      exact ⟨_, rfl, own_nil _ _, Only.refl _ _⟩
    · have hrun := fun w => Lib.run_append_nil_zeros (P := Try.prog) w 22 3 22 9 i (.string ByteArray.empty) .i64 .i64 Try.underlying22 Try.underlying3 hinf hz m hp (by omega) (by omega) (by rw [hb]; omega)
      go_enter Try.func39, Try.ntmps39
      go_wp2_with (at_builtin; refine Lib.wpList_append_run _ rfl _ _ _ _ rfl _ _ rfl rfl _ _ (hrun _) ?_)
      go_ret
      have hge := grownCap_ge w m 0 9
      exact ⟨_, rfl, own_zero (by exact alloc_new w _) (Nat.le_refl _) (by simp [size_zeroCells]; omega) (grownCap_le_maxLen w m 0 9 (by unfold maxLen; omega)), ((Only.refl _ w).alloc _).drew⟩

abbrev Part := Option Addr × Nat × Nat × List ByteArray
/-- The lines of the first k parts. -/
def flat (p : Nat → Part) (k : Nat) : List ByteArray := (List.range k).flatMap fun j => (p j).2.2.2
theorem flat_succ (p : Nat → Part) (k : Nat) : flat p (k + 1) = flat p k ++ (p k).2.2.2 := by simp [flat, List.range_succ]
theorem flat_le (p : Nat → Part) {k q : Nat} (h : k ≤ q) : (flat p k).length ≤ (flat p q).length := by
  induction h with
  | refl => exact Nat.le_refl _
  | step h ih => rw [flat_succ, List.length_append]; omega
structure Parts (w : World) (g off q : Nat) (p : Nat → Part) : Prop where
  lt : g < w.heap.size
  cell : ∀ i, i < q → w.cell? ⟨g, off + i, none⟩ = some (.slice (p i).1 (p i).2.1 (p i).2.2.1)
  lines : ∀ i, i < q → Lines w (p i).1 (p i).2.1 (p i).2.2.1 (p i).2.2.2

set_option maxHeartbeats 2000000 in
set_option maxRecDepth 100000 in
theorem concat_calls (g off q c : Nat) (p : Nat → Part) (w : World) (h : Parts w g off q p) (hq : q ≤ c) (hc : c ≤ 1000000) (hn : (flat p q).length ≤ 1099511627776) :
    Calls Try.prog 29 #[.slice (some ⟨g, off, none⟩) q c] w fun e w' => ∃ v, e = .returned v ∧ Own w' w.heap.size v (flat p q) ∧ Only No w w' := by
  have H := Lib.hid h
  clear h
  go_enter Try.func29, Try.ntmps29
  go_wp2
  go_loop [3, 5, 11] (fun t s i => ∃ k : Nat, i = .int .i64 (k : Int) ∧ k ≤ q ∧ t = .int .i64 ((flat p k).length : Nat)) (fun _ _ i => q - (intOf i).toNat)
  case atStart => exact ⟨0, rfl, by omega, rfl⟩
  case round =>
    obtain ⟨k, rfl, hk, rfl⟩ := hrel
    by_cases hlt : k < q
    · have hcell := H.out.cell k hlt
      have hpl := (H.out.lines k hlt).len
      have hle := flat_le p (show k + 1 ≤ q by omega)
      rw [flat_succ, List.length_append] at hle
      generalize hpk : p k = pk at *
      obtain ⟨A, n, c', L⟩ := pk
      simp only at hcell hpl hle
      have e1 : (flat p (k + 1)).length = (flat p k).length + n := by rw [flat_succ, List.length_append, hpk, hpl]
      go_wp2
      go_round
      case rel => exact ⟨k + 1, by first | rfl | (simp; done) | (simp; omega), by omega, by rw [e1]; first | rfl | (simp; done) | (simp; omega)⟩
      case measure => first | (simp [intOf]; done) | (simp [intOf]; omega)
    · obtain rfl : k = q := by omega
      go_wp2_with fail
      refine (grow_nil _ _ hn).mono ?_
      rintro e w1 ⟨v, rfl, hown, hO⟩
      go_wp2
      go_loopw [6, 8, 27] (fun r s i wr => ∃ j : Nat, i = .int .i64 (j : Int) ∧ j ≤ k ∧ Own wr w.heap.size r (flat p j) ∧ Only No w wr) (fun _ _ i _ => k - (intOf i).toNat)
      case atStart => exact ⟨0, rfl, by omega, hown, hO⟩
      case round =>
        obtain ⟨j, rfl, hj, hown, hO⟩ := hrel
        by_cases hlt : j < k
        · have hcell := H.out.cell j hlt
          have hpl := (H.out.lines j hlt)
          have hle := flat_le p (show j + 1 ≤ k by omega)
          rw [flat_succ, List.length_append] at hle
          have e1 := flat_succ p j
          generalize hpk : p j = pk at *
          obtain ⟨A, n, c', L⟩ := pk
          simp only at hcell hpl hle e1
          have hlw := hpl.only hO (fun _ _ h => h.elim)
          replace hcell := (cell_block (hO.block g H.out.lt (fun h => h)) (off + j)).trans hcell
          have hn' := hpl.len
          subst hn'
          have HL := Lib.hid hlw
          clear hlw hpl
          have hsum : (flat p j).length + L.length ≤ 1099511627776 := by omega
          have hsize := hO.size
          go_wp2_with (at_builtin; refine wpList_app rfl _ _ rfl w.heap.size _ (flat p j) L A L.length c' rfl rfl hown HL.out hsum hsize ?_; intro r' wr' hown' hg')
          go_roundw
          case rel => exact ⟨j + 1, by first | rfl | (simp; done) | (simp; omega), by omega, by rw [e1]; exact hown', hO.grown hg' (fun b e => .inl (hown.ge e))⟩
          case measure => first | (simp [intOf]; done) | (simp [intOf]; omega)
        · obtain rfl : j = k := by omega
          go_wp2
          go_ret
          exact ⟨_, rfl, hown, hO⟩
end Go.Proofs.Ytgdlplkeafeblaa.Lns
