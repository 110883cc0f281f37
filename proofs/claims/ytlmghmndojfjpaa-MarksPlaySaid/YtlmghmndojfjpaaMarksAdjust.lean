/- The program's marks: Adjust, walked; lines between -2^40 and 2^40. -/
import Derived.Test.YtlmghmndojfjpaaMapRange
import Derived.Test.YtlmghmndojfjpaaMarksBase
import Derived.Test.YtlmghmndojfjpaaShift
namespace Go.Proofs.Ytlmghmndojfjpaa.Mk
open Go.RowKit Go.Proofs.Ytlmghmndojfjpaa.MapRaw Go.Proofs.Ytlmghmndojfjpaa.Frm Go.Proofs.Ytlmghmndojfjpaa.Shf
set_option linter.unusedVariables false
set_option linter.unusedSimpArgs false

set_option maxHeartbeats 1000000 in
theorem clone_calls (M : Nat) (f : Nat → Option Value) (w : World) (h : Raw Try.prog 5 w M f) :
    Calls Try.prog 22 #[.map (some M)] w fun e w' => e = .returned (.map (some w.heap.size)) ∧ Raw Try.prog 5 w' w.heap.size f ∧ Below w.heap.size w w' := by
  obtain ⟨n, es, clock, hb, F, hs, hD⟩ := h
  have hq := fun w => run_eql_map (P := Try.prog) w 51 _ _ (some M) Try.underlying51
  go_enter Try.func22, Try.ntmps22
  go_wp2
  rw [run_callFunc_extern Try.func25 (by kernel_rfl) (by kernel_rfl) (by kernel_rfl) (e := Extern.MapsClone.clone) (by kernel_rfl), run_clone 51 w hb]
  simp only [Result.andThen]
  rw [Oper.upon_value]
  go_wp2
  rw [run_assert_map _ 51 20 _ _ _ Try.underlying51]
  simp only [Result.andThen]
  rw [Oper.upon_value]
  go_wp2
  go_ret
  exact ⟨rfl, ⟨n, es, clock, alloc_new _ _, F, hs, hD⟩, (Below.refl _ w).alloc (Nat.le_refl _) _⟩

/-- A mark behind a change. -/
def adj1 (at_ old now : Int) (p : Int × Int) : Option (Int × Int) := if (shift p.1 at_ old now).2 then some ((shift p.1 at_ old now).1, p.2) else none
def adj (f : Nat → Option (Int × Int)) (at_ old now : Int) : Nat → Option (Int × Int) := fun k => (f k).bind (adj1 at_ old now)
/-- Marks in the middle of it: those that are still to come are as they were. -/
def mid (f : Nat → Option (Int × Int)) (at_ old now : Int) (left : Nat → Bool) : Nat → Option (Int × Int) := fun k => if left k && decide (k < 256) then f k else adj f at_ old now k

theorem mid_step {f : Nat → Option (Int × Int)} {at_ old now : Int} {left : Nat → Bool} {k : Nat} {p q l : Int} {ok : Bool} (hf : f k = some (p, q)) (hs : shift p at_ old now = (l, ok)) :
    (fun j => if j = k then (if ok then some (l, q) else none) else mid f at_ old now left j) = mid f at_ old now (fun j => left j && j != k) := by
  funext j
  by_cases e : j = k
  · subst e
    unfold mid adj adj1
    simp [hf, hs]
  · unfold mid
    simp [e]

theorem wpList_next_pos {P : Program} {K : TypeId} {C r cnt : Nat} {f : Nat → Option (Int × Int)} {left : Nat → Bool} {ops : Array Oper} {rest : List Oper} {o : Oper} {a : Act} {Q : Exit → Act → World → Prop} (w : World) (hg : o.guard = none) (it : Operand) (hop : o.op = Op.next it false) (hk : P.underlying K = some (.int .u8))
    (hit : a.eval it = .pointer (some ⟨r, 0, none⟩)) (h : Rng P K w C r (fun k => (f k).map posV) left cnt)
    (hDone : cnt = 0 → (∀ k : Nat, k < 256 → left k = false) → wpList P ops Q rest (a.put o.dst (.tuple #[.bool false])) w)
    (hMore : ∀ (k : Nat) (p q : Int) (w' : World) (cnt' : Nat), k < 256 → Hid (left k = true) → Hid (f k = some (p, q)) → Rng P K w' C r (fun k => (f k).map posV) (fun j => left j && j != k) cnt' → cnt' < cnt → Only (fun b => b = r) w w' → Hid (w'.heap.size = w.heap.size) →
      (Instr.entry (.pointer (some ⟨r, 0, none⟩))).run P w' = .ok (.tuple #[.int .u8 (k : Int), .agg #[.int .i64 p, .int .i64 q]]) w' → wpList P ops Q rest (a.put o.dst (.tuple #[.bool true, .int .u8 (k : Int), .agg #[.int .i64 p, .int .i64 q]])) w') :
    wpList P ops Q (o :: rest) a w := by
  refine wpList_next_raw w hg it hop hk hit h hDone fun k v w' cnt' h1 h2 h3 h4 h5 h6 h7 h8 => ?_
  cases hf : f k with
  | none => simp [hf] at h3
  | some p =>
    rw [hf] at h3
    have : v = posV p := (Option.some.inj h3).symm
    subst this
    exact hMore k p.1 p.2 w' cnt' h1 (Lib.hid h2) (Lib.hid hf) h4 h5 h6 (Lib.hid h7) h8

set_option maxHeartbeats 4000000 in
set_option maxRecDepth 100000 in
theorem adjust_calls (B M : Nat) (f : Nat → Option (Int × Int)) (at_ old now : Int) (w : World) (h : At w B M f) (hdom : ∀ k, 256 ≤ k → f k = none) (hbd : ∀ k p, f k = some p → -1099511627776 ≤ p.1 ∧ p.1 ≤ 1099511627776) :
    Calls Try.prog 14 #[.pointer (some ⟨B, 0, none⟩), .int .i64 at_, .int .i64 old, .int .i64 now] w fun e w' => e = .returned (.tuple #[]) ∧ At w' B M (adj f at_ old now) ∧ Only (fun b => b = M) w w' := by
  have hBs := heap_lt h.box
  have hMs := h.map.lt
  have hne := h.ne
  have hcB := cell_of_one h.box
  go_enter Try.func14, Try.ntmps14
  go_wp2_with (first | (go_at_call 22; refine (clone_calls M _ _ h.map).mono ?_; rintro e w1 ⟨rfl, hraw1, hb1⟩) | (at_range; refine wpList_range_raw _ rfl _ 51 rfl 37 Try.underlying5 Try.underlying51 rfl hraw1 ?_; intro w2 hrng hb2 hs2))
  go_frame
  have hz1 := hb1.size
  have hon2 : Only (fun b => b = M) w w2 := ((Only.refl _ _).call hb1).call hb2
  have hat2 : At w2 B M f := h.of ((hb2.block B (by omega)).trans (hb1.block B hBs)) ((hb2.block M (by omega)).trans (hb1.block M hMs))
  go_loopw [] (fun wr => ∃ left cnt, Rng Try.prog 5 wr w.heap.size w1.heap.size (fun k => (f k).map posV) left cnt ∧ At wr B M (mid f at_ old now left) ∧ (∀ k, left k = true → (f k).isSome = true) ∧ Only (fun b => b = M) w wr) (fun wr => wr.rangeLeft w.heap.size w1.heap.size)
  case atStart =>
    refine ⟨_, _, hrng, ?_, ?_, hon2⟩
    · have e : mid f at_ old now (fun k => ((f k).map posV).isSome) = f := by
        funext k
        unfold mid adj
        cases hf : f k with
        | none => simp [hf]
        | some p =>
          have : k < 256 := by
            by_cases hk : k < 256
            · exact hk
            · rw [hdom k (by omega)] at hf; cases hf
          simp [hf, this]
      rw [e]
      exact hat2
    · intro k hk
      simpa using hk
  case round =>
    obtain ⟨left, cnt, hrg, hat, hlf, hon⟩ := hrel
    have hcB := cell_of_one hat.box
    go_wp2_with (at_next; refine wpList_next_pos _ rfl _ rfl Try.underlying5 rfl hrg (fun hc0 hl0 => ?_) (fun k p q w3 cnt3 hk hl hf hrng3 hcnt hon3 hs3 hen => ?_))
    · go_end0
      refine ⟨rfl, ?_, hon⟩
      have e : mid f at_ old now left = adj f at_ old now := by
        funext k
        unfold mid
        by_cases hk : k < 256
        · rw [hl0 k hk]; simp
        · simp [hk]
      rw [← e]
      exact hat
    · have hBr : B ≠ w1.heap.size := by omega
      have hMr : M ≠ w1.heap.size := by omega
      have hat3 : At w3 B M (mid f at_ old now left) := hat.of (hon3.block B (heap_lt hat.box) hBr) (hon3.block M hat.map.lt hMr)
      have hcB3 := cell_of_one hat3.box
      have hlt3 := heap_lt hat3.box
      have hd := hbd k (p, q) hf.out
      refine (shift_calls p at_ old now _ hd.1 hd.2).mono ?_
      rintro e w4 ⟨rfl, rfl⟩
      cases hs : shift p at_ old now with
      | mk l ok =>
      cases ok with
      | false =>
        obtain ⟨w5, hrun, hraw, hturn⟩ := Raw.drop (w := w3.alloc (.cells #[.int .i64 p, .int .i64 q] 37)) (t := 51) (hat3.map.block (Below.heap_alloc _ _ _ hat3.map.lt)) Try.underlying5 Try.underlying51 hk 0
        have hms := mid_step (left := left) hf.out hs
        have honf : Only (fun b => b = M) w3 w5 := ((Only.refl _ w3).alloc _).turned hturn (.inr rfl)
        have hatf : At w5 B M (mid f at_ old now (fun j => left j && j != k)) := ⟨(turned_block hturn hne).trans ((Below.heap_alloc _ _ _ hlt3).trans hat3.box), by
          rw [← hms, upd_map (mid f at_ old now left) k (if false then some (l, q) else none)]; exact hraw⟩
        have hlf2 : ∀ j, (left j && j != k) = true → (f j).isSome = true := fun j hj => hlf j (by simp at hj; exact hj.1)
        have Hfin := Lib.hid (And.intro hatf hlf2)
        clear hms hatf hlf2 hraw
        go_wp2
        go_roundw
        case rel => exact ⟨_, cnt3, hrng3.only honf (by omega) (by omega), Hfin.out.1, Hfin.out.2, (hon.trans hon3 (fun b hb e => by omega)).trans' honf⟩
        case measure => rw [(hrng3.only honf (by omega) (by omega)).left_eq, hrg.left_eq]; exact hcnt
      | true =>
        obtain ⟨w5, hrun, hraw, hturn⟩ := Raw.store (w := (w3.alloc (.cells #[.int .i64 l, .int .i64 q] 37)).drew) (t := 51) (hat3.map.block (Below.heap_alloc _ _ _ hat3.map.lt)) Try.underlying5 Try.underlying51 hk (.agg #[.int .i64 l, .int .i64 q])
        have hms := mid_step (left := left) hf.out hs
        have honf : Only (fun b => b = M) w3 w5 := Only.turned (b := (w3.alloc (.cells #[.int .i64 l, .int .i64 q] 37)).drew) ((Only.refl _ w3).alloc _).drew hturn (.inr rfl)
        have hatf : At w5 B M (mid f at_ old now (fun j => left j && j != k)) := ⟨(turned_block hturn hne).trans ((Below.heap_alloc _ _ _ hlt3).trans hat3.box), by
          rw [← hms, upd_map (mid f at_ old now left) k (if true then some (l, q) else none)]; exact hraw⟩
        have hlf2 : ∀ j, (left j && j != k) = true → (f j).isSome = true := fun j hj => hlf j (by simp at hj; exact hj.1)
        have Hfin := Lib.hid (And.intro hatf hlf2)
        clear hms hatf hlf2 hraw
        go_wp2
        go_region
        all_goals
          go_wp2
          go_roundw
          case rel => exact ⟨_, cnt3, hrng3.only honf (by omega) (by omega), Hfin.out.1, Hfin.out.2, (hon.trans hon3 (fun b hb e => by omega)).trans' honf⟩
          case measure => rw [(hrng3.only honf (by omega) (by omega)).left_eq, hrg.left_eq]; exact hcnt
#print axioms adjust_calls
end Go.Proofs.Ytlmghmndojfjpaa.Mk
