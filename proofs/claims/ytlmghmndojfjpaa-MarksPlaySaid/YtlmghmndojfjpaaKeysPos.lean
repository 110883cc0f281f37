/- maps.Keys of a map keyed by bytes: the iterator tells each key once, in some order. -/
import Derived.Test.YtlmghmndojfjpaaMapRange
import Derived.Test.YtlmghmndojfjpaaProg
import Derived.Sort.MapsRangeIn
import Derived.RangeFuncNested
import Derived.RangeFuncBound
import Derived.RangeFuncCalls
import Derived.RangeFuncLeaves
import Derived.Shelf.Abstract
import Derived.Shelf.RegionOpen
import Derived.WalkKit
import Derived.OwnWalkIn
import Derived.TacticsInMore
import Derived.LoopNIn
import Derived.LoopIn
namespace Go.Proofs.Ytlmghmndojfjpaa.Keys
open Go.Maps (Keyed has)
open Go.RowKit Go.Shelf Go.Proofs.Ytlmghmndojfjpaa.Frm Go.Proofs.Ytlmghmndojfjpaa.MapRaw
attribute [local go_sem] Oper.semAt_some
set_option linter.unusedVariables false
set_option linter.unusedSimpArgs false

section
variable {F : Fence} {n : Nat} {P : Program} {K : TypeId} {w w' : World} {C r cnt : Nat} {f : Nat → Option Value} {left : Nat → Bool}
theorem wpListIn_range_raw {ops : Array Oper} {rest : List Oper} {o : Oper} {a : Act} {Q : Exit → Act → World → Prop} (w : World) (hg : o.guard = none) (m : Operand) (t : TypeId) (hop : o.op = Op.range t m) (e : TypeId) (hk : P.underlying K = some (.int .u8)) (ht : P.underlying t = some (.map K e))
    (hm : a.eval m = .map (some C)) (h : Raw P K w C f)
    (hK : ∀ w', Rng P K w' C w.heap.size f (fun k => (f k).isSome) (Maps.size (datum f)) → Below w.heap.size w w' → w'.heap.size = w.heap.size + 1 → wpListIn F n P ops Q rest (a.put o.dst (.pointer (some ⟨w.heap.size, 0, none⟩))) w') :
    wpListIn F n P ops Q (o :: rest) a w :=
  wpListIn_range_own w hg m t hop K e (Maps.int_keyed hk) ht rawR C 256 (datum f) hm h.owns fun w' h1 h2 h3 =>
    hK w' ⟨_, h1, fun k hk => has_datum hk⟩ ⟨h2.os, h2.tape, h2.output, h2.size, fun k hk => h2.block k hk (by simp)⟩ h3

set_option maxRecDepth 100000 in
theorem wpListIn_next_raw {ops : Array Oper} {rest : List Oper} {o : Oper} {a : Act} {Q : Exit → Act → World → Prop} (w : World) (hg : o.guard = none) (it : Operand) (hop : o.op = Op.next it false) (hk : P.underlying K = some (.int .u8))
    (hit : a.eval it = .pointer (some ⟨r, 0, none⟩)) (h : Rng P K w C r f left cnt)
    (hDone : cnt = 0 → (∀ k : Nat, k < 256 → left k = false) → wpListIn F n P ops Q rest (a.put o.dst (.tuple #[.bool false])) w)
    (hMore : ∀ (k : Nat) (v : Value) (w' : World) (cnt' : Nat), k < 256 → left k = true → Hid (f k = some v) → Rng P K w' C r f (fun j => left j && j != k) cnt' → cnt' < cnt → w.grownBy w' (some r) → Hid (w'.heap.size = w.heap.size) →
      (Instr.entry (.pointer (some ⟨r, 0, none⟩))).run P w' = .ok (.tuple #[.int .u8 (k : Int), v]) w' → wpListIn F n P ops Q rest (a.put o.dst (.tuple #[.bool true, .int .u8 (k : Int), v])) w') :
    wpListIn F n P ops Q (o :: rest) a w := by
  obtain ⟨lt, hr, hl⟩ := h
  refine wpListIn_next_ranges w hg it hop K (Maps.int_keyed hk) rawR (Value.int .u8) (fun v : Value => v)
    (fun key kl hkey => by obtain ⟨x, rfl, _⟩ := Maps.keyOf_int_inv hk hkey; exact ⟨x, rfl⟩) (fun v y _ => ⟨v, rfl⟩) C r 256 (datum f) lt cnt hit hr
    (fun h0 hall => hDone h0 (fun k hk => (hl k hk).symm.trans (hall _))) ?_
  intro x c kl y w' cnt' hkey hlk hRv hat hrg hcnt hgr hsz hen
  obtain ⟨x', ex, rfl, hwx⟩ := Maps.keyOf_int_inv hk hkey
  cases ex
  simp only [Lit.wf, Bool.and_eq_true, decide_eq_true_eq] at hwx
  have m1 : IntKind.u8.min = 0 := by decide
  have m2 : IntKind.u8.max = 255 := by decide
  obtain ⟨k, rfl⟩ : ∃ k : Nat, x = (k : Int) := ⟨x.toNat, by omega⟩
  have hk256 : k < 256 := by omega
  have hy : y.1 = .held c := by
    have : rawR c = some (.held c, []) := rfl
    rw [this] at hRv
    rw [← Option.some.inj hRv]
  have hf : f k = some c := by
    have h1 := hat (.lit (.bool true))
    rw [atKey_datum hk256, hy] at h1
    cases hfk : f k with
    | none => rw [hfk] at h1; cases h1
    | some u =>
      rw [hfk] at h1
      simp only [DataW.held.injEq] at h1
      rw [h1]
  refine hMore k c w' cnt' hk256 ((hl k hk256).symm.trans hlk) (Lib.hid hf) ⟨_, hrg, fun j hj => ?_⟩ hcnt hgr (Lib.hid hsz) hen
  exact step_left (hl j hj) j k

theorem rng_walks (h : Rng P K w C r f left cnt) (hk : KeepsWalks w w') : Rng P K w' C r f left cnt := by
  obtain ⟨lt, h, hl⟩ := h
  exact ⟨lt, h.of_walks hk, hl⟩
end

/-- Which keys have come. -/
structure Got (f : Nat → Option Value) (left : Nat → Bool) (ss : List Nat) : Prop where
  nodup : ss.Nodup
  mem : ∀ k, k ∈ ss ↔ k < 256 ∧ (f k).isSome = true ∧ left k = false

theorem got_start (f : Nat → Option Value) : Got f (fun k => (f k).isSome) [] := ⟨List.nodup_nil, fun k => by
  constructor
  · intro h; cases h
  · rintro ⟨_, h2, h3⟩; rw [h2] at h3; cases h3⟩
theorem got_step {f : Nat → Option Value} {left : Nat → Bool} {ss : List Nat} {k : Nat} {v : Value} (h : Got f left ss) (hk : k < 256) (hl : left k = true) (hf : f k = some v) : Got f (fun j => left j && j != k) (ss ++ [k]) := by
  have hnot : k ∉ ss := by rw [h.mem]; simp [hl]
  refine ⟨List.nodup_append.2 ⟨h.nodup, by simp, ?_⟩, fun j => ?_⟩
  · intro a ha b hb
    simp only [List.mem_singleton] at hb
    rintro rfl
    exact hnot (hb ▸ ha)
  · rw [List.mem_append, h.mem, List.mem_singleton]
    constructor
    · rintro (⟨h1, h2, h3⟩ | rfl)
      · exact ⟨h1, h2, by simp [h3]⟩
      · exact ⟨hk, by simp [hf], by simp⟩
    · rintro ⟨h1, h2, h3⟩
      by_cases e : j = k
      · exact .inr e
      · exact .inl ⟨h1, h2, by simpa [e] using h3⟩

theorem nodup_length : ∀ (n : Nat) (ss : List Nat), ss.Nodup → (∀ x ∈ ss, x < n) → ss.length ≤ n
  | 0, ss, _, h => by
    cases ss with
    | nil => simp
    | cons x r => exact absurd (h x (by simp)) (by omega)
  | n + 1, ss, hn, h => by
    by_cases hm : n ∈ ss
    · have h1 := nodup_length n (ss.erase n) (hn.erase n) (fun x hx => by
        have h2 := (hn.mem_erase_iff).1 hx
        have := h x h2.2
        have := h2.1
        omega)
      have := List.length_erase_of_mem hm
      omega
    · exact Nat.le_succ_of_le (nodup_length n ss hn (fun x hx => by
        have h1 := h x hx
        have : x ≠ n := fun e => hm (e ▸ hx)
        omega))

/-- The keys of a map, in order. -/
def keysOf (f : Nat → Option Value) : List Nat := (List.range 256).filter fun k => (f k).isSome

theorem keysOf_nodup (f : Nat → Option Value) : (keysOf f).Nodup := List.nodup_range.filter _
theorem mem_keysOf {f : Nat → Option Value} {k : Nat} : k ∈ keysOf f ↔ k < 256 ∧ (f k).isSome = true := by simp [keysOf]

theorem perm_of_nodup {a b : List Nat} (ha : a.Nodup) (hb : b.Nodup) (h : ∀ x, x ∈ a ↔ x ∈ b) : a.Perm b := by
  rw [List.perm_iff_count]
  intro x
  rw [ha.count, hb.count]
  by_cases hx : x ∈ a
  · rw [if_pos hx, if_pos ((h x).1 hx)]
  · rw [if_neg hx, if_neg (fun hb => hx ((h x).2 hb))]

theorem Got.perm {f : Nat → Option Value} {left : Nat → Bool} {ss : List Nat} (h : Got f left ss) (hl : ∀ k : Nat, k < 256 → left k = false) : ss.Perm (keysOf f) :=
  perm_of_nodup h.nodup (keysOf_nodup f) fun x => by
    rw [h.mem, mem_keysOf]
    constructor
    · rintro ⟨h1, h2, _⟩; exact ⟨h1, h2⟩
    · rintro ⟨h1, h2⟩; exact ⟨h1, h2, hl x h1⟩
theorem Got.length {f : Nat → Option Value} {left : Nat → Bool} {ss : List Nat} {k : Nat} (h : Got f left ss) (hk : k < 256) (hl : left k = true) : ss.length < 256 := by
  have hn : k ∉ ss := by rw [h.mem]; simp [hl]
  have h1 : (k :: ss).Nodup := List.nodup_cons.2 ⟨hn, h.nodup⟩
  have := nodup_length 256 (k :: ss) h1 (fun x hx => by
    rcases List.mem_cons.1 hx with rfl | hx
    · exact hk
    · exact ((h.mem x).1 hx).1)
  rw [List.length_cons] at this
  omega

/-- What the rounds keep: whatever lies below n₀, and the iterators. -/
def Kp (n₀ : Nat) (A B : World) : Prop := Below n₀ A B ∧ KeepsWalks A B
theorem kp_t {n₀ : Nat} {A B C : World} (h : Kp n₀ A B) (k : Kp n₀ B C) : Kp n₀ A C := ⟨h.1.trans k.1, h.2.trans k.2⟩
theorem kp_b {n₀ : Nat} {w : World} (hn : n₀ ≤ w.heap.size) (W : World) (l : Nat) (o o' : Obj) (hl : w.heap.size ≤ l) (h : W.heap[l]? = some o) (hc : o.isCells = false) (hw : o.isWalk = false) : Kp n₀ W (W.putObj l o') :=
  ⟨belowK_b hn W l o o' hl h hc hw, walksK_b (w := w) W l o o' hl h hc hw⟩

set_option maxRecDepth 100000 in
set_option maxHeartbeats 1000000 in
theorem keys1_stops (n₀ Bm M : Nat) (f : Nat → Option Value) (w : World) (hbox : w.heap[Bm]? = some (.cells #[.map (some M)] 51 (0, 0))) (hraw : Raw Try.prog 5 w M f) (hB : Bm < n₀) (hM : M < n₀) (hn : n₀ ≤ w.heap.size) (m : Nat) (h1 : 1 ≤ m) :
    SeqStopsK Fence.wide m Try.prog 28 #[.pointer (some ⟨Bm, 0, none⟩)] (fun k : Nat => #[.int .u8 (k : Int)]) (Kp n₀) (fun xs => xs.Perm (keysOf f)) (fun _ => True) 256 w := by
  intro l J Jx W hW hJ hJx hY h0
  have hbW : W.heap[Bm]? = some (.cells #[.map (some M)] 51 (0, 0)) := (hW.block Bm (by omega)).trans hbox
  have hrW : Raw Try.prog 5 W M f := hraw.block (hW.block M (by omega))
  have hc := cell_of_one hbW
  refine callsIn_of_wp Try.func28 rfl trivial ?_ rfl
  simp only [Try.ntmps28, List.size_toArray, List.length_cons, List.length_nil, Nat.reduceAdd, Nat.reduceSub, Array.replicate_succ, Array.replicate_zero, List.push_toArray, List.append_toArray, List.nil_append, List.cons_append]
  gi_wp2_with (first
    | (gi_at_range; refine wpListIn_range_raw _ rfl _ 51 rfl 37 Try.underlying5 Try.underlying51 rfl hrW ?_; intro w0 hrg0 hb0 hs0)
    | gi_in)
  (try go_frame)
  have hsz := hW.size
  gi_loopw [3] (fun _ wr => ∃ (left : Nat → Bool) (cnt : Nat) (ss : List Nat), Rng Try.prog 5 wr M W.heap.size f left cnt ∧ Got f left ss ∧ J ss wr)
    (fun _ wr => wr.rangeLeft M W.heap.size)
  case atStart =>
    exact ⟨_, _, [], hrg0, got_start f, hJ [] W w0 none h0 ⟨hb0.os, hb0.tape, hb0.output, hb0.size, fun k hk _ => hb0.block k hk⟩ (fun r e => by cases e)⟩
  case round =>
    obtain ⟨left, cnt, ss, hrg, hC, hJs⟩ := hrel
    gi_wp2_with (first
      | (gi_at_next; refine wpListIn_next_raw _ rfl _ rfl Try.underlying5 rfl hrg ?_ ?_)
      | gi_in)
    · intro hc0 hl0
      gi_wp2
      go_end0
      exact ⟨⟨_, rfl⟩, .inl ⟨ss, hC.perm hl0, hJs⟩⟩
    · intro k v w2 cnt2 hk hlk hf hrg2 hlt hg2 hs2 hen
      have hJ2 : J ss w2 := hJ ss wr w2 (some W.heap.size) hJs hg2 (fun r e => by
        cases e
        obtain ⟨a, b, c, d, h⟩ := hrg.iter
        exact ⟨Nat.le_refl _, _, h, rfl⟩)
      obtain ⟨fn, tmps, assign, body, hy, hR⟩ := hY ss k w2 hJ2 (hC.length hk hlk)
      (try dsimp only at hy)
      have hCn := got_step hC hk hlk hf.out
      have HCn := Lib.hid hCn
      clear hCn
      gi_wp2
      refine hR.mono ?_
      rintro e W3 (⟨rfl, hJ3, hk3⟩ | ⟨rfl, hJx3⟩)
      · gi_wp2
        go_roundw
        case rel => exact ⟨_, cnt2, ss ++ [k], rng_walks hrg2 hk3.2, HCn.out, hJ3⟩
        case measure => rw [(rng_walks hrg2 hk3.2).left_eq, hrg.left_eq]; exact hlt
      · gi_wp2
        (try simp only [Exit.inBlock, Exit.then])
        refine bodyPost_ret (results_none rfl _ _ _) rfl ?_
        exact ⟨⟨_, rfl⟩, .inr ⟨_, trivial, hJx3⟩⟩

/-- maps.Keys: the map is boxed; the function value holds the box. -/
theorem keys_calls (M : Nat) (w : World) : Calls Try.prog 24 #[.map (some M)] w fun e w' => e = .returned (.func (.func 28) #[] #[.pointer (some ⟨w.heap.size, 0, none⟩)]) ∧ w' = w.alloc (.cells #[.map (some M)] 51) := by
  go_enter Try.func24, Try.ntmps24
  go_wp2
  go_ret
  exact ⟨rfl, rfl⟩
#print axioms keys1_stops
end Go.Proofs.Ytlmghmndojfjpaa.Keys
