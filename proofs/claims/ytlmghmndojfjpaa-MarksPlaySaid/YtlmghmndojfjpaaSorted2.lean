/- slices.Sorted of a map's keys (bytes): the keys, in order, however many; no condition. -/
import Derived.Test.YtlmghmndojfjpaaCollect
import Derived.Test.YtlmghmndojfjpaaSorted
import Derived.Test.YtlmghmndojfjpaaSoH
namespace Go.Proofs.Ytlmghmndojfjpaa.So8
open Go.RowKit Go.Sort
set_option linter.unusedVariables false
set_option linter.unusedSimpArgs false

theorem callees8 : Callees13 where
  ins := BinsertionSort_int
  brk := BbreakPatterns_int
  piv := BchoosePivot_int
  par := BpartialInsertionSort_int
  peq := BpartitionEqualOrdered_int
  prt := BpartitionOrdered_int
theorem plain8 : Plain13 where
  swo := swo_ltInt
  ins := insertionSort_holds
  par := partialInsertionSort_holds
  prt := partition_holds _
  peq := partitionEqual_holds _
  pdq := pdq_sorts _
theorem pdqWalk8 : pdqWalk_int := fun blk off cap a b limit d w hH hb hab hbd hsz hl hB =>
  Bpdqsort_int callees8 plain8 (b - a + 1) blk off cap a b limit d w (by omega) hH hb hab hbd hsz hl hB
theorem sort8 (blk off cap : Nat) (zs : List Int) (w : World) (hH : Holds (Value.int .u8) w blk off zs.toArray) (hblk : blk < w.heap.size) (hsz : zs.length < 4611686018427387904) :
    Calls Try.prog 27 #[.slice (some ⟨blk, off, none⟩) zs.length cap] w fun e w' =>
      e = .returned (.tuple #[]) ∧ ∃ n os, w' = grow (putRow (Value.int .u8) (Sort.ahead w n) blk off (zs.mergeSort fun x y => decide (x ≤ y)).toArray) os := by
  have h := BSort_int pdqWalk8 blk off cap zs.toArray w hH hblk (by simpa using hsz)
  rw [show Sort.sort ltInt zs.toArray = (zs.mergeSort fun x y => decide (x ≤ y)).toArray by rw [← sortInt zs]] at h
  simpa using h

theorem holds_of_block8 {w : World} {g : Nat} {cur : Array Value} {e : TypeId} {ss : List Int} (hb : w.heap[g]? = some (.cells cur e (0, 0))) (ht : cur.toList.take ss.length = ss.map (Value.int .u8)) : Holds (Value.int .u8) w g 0 ss.toArray := by
  intro j hj
  have hj' : j < ss.length := by simpa using hj
  refine ⟨?_, by simp [World.frozen?, hb]⟩
  have h1 : (cur.toList.take ss.length)[j]? = (ss.map (Value.int .u8))[j]? := by rw [ht]
  rw [List.getElem?_take_of_lt hj'] at h1
  simp only [World.cell?, hb, Nat.zero_add]
  simp only [Option.isSome_none, Bool.false_eq_true, if_false]
  rw [← Array.getElem?_toList, h1]
  simp [hj']
theorem heap_sorted8 {w : World} {g n : Nat} {os : Array Obj} {cur : Array Value} {e : TypeId} {fr : Nat × Nat} (d : Array Int) (hb : w.heap[g]? = some (.cells cur e fr)) :
    (grow (putRow (Value.int .u8) (Sort.ahead w n) g 0 d) os).heap[g]? = some (.cells (putCells (Value.int .u8) 0 d cur) e fr) := by
  have hg : g < w.heap.size := (Array.getElem?_eq_some_iff.1 hb).1
  rw [heap_grow_old _ _ (by simpa using hg)]
  simp [putRow, mapBlock, Sort.ahead, Array.getElem?_modify, hb, onCells]
theorem grownBy_sorted8 {w : World} {g n : Nat} {os : Array Obj} (d : Array Int) : w.grownBy (grow (putRow (Value.int .u8) (Sort.ahead w n) g 0 d) os) (some g) := by
  refine ⟨rfl, rfl, rfl, by simp, fun k hk hne => ?_⟩
  rw [heap_grow_old _ _ (by simpa using hk)]
  have : g ≠ k := fun e => hne (by rw [e])
  simp [putRow, mapBlock, Sort.ahead, Array.getElem?_modify, this]
theorem take_putCells8 (cur : Array Value) (ts : List Int) (h : ts.length ≤ cur.size) : (putCells (Value.int .u8) 0 ts.toArray cur).toList.take ts.length = ts.map (Value.int .u8) := by
  apply List.ext_getElem?
  intro j
  by_cases hj : j < ts.length
  · rw [List.getElem?_take_of_lt hj, Array.getElem?_toList]
    simp [putCells, hj, show j < cur.size by omega]
  · rw [List.getElem?_take_eq_none (by omega), List.getElem?_eq_none (by simp; omega)]
/-- What sorts numbers sorts their casts: the one order. -/
theorem merge_is {ss L : List Nat} (hp : ss.Perm L) (hL : L.Pairwise (· < ·)) : ((ss.map fun k : Nat => (k : Int)).mergeSort fun x y => decide (x ≤ y)) = L.map fun k : Nat => (k : Int) := by
  have h1 : ((ss.map fun k : Nat => (k : Int)).mergeSort fun x y => decide (x ≤ y)).Pairwise fun x y => (decide (x ≤ y)) = true :=
    List.pairwise_mergeSort (fun a b c h1 h2 => by simp at h1 h2 ⊢; omega) (fun a b => by simp; omega) _
  have h2 : (L.map fun k : Nat => (k : Int)).Pairwise fun x y => (decide (x ≤ y)) = true := by
    rw [List.pairwise_map]
    exact hL.imp fun h => by simp; omega
  have h3 := (List.mergeSort_perm (ss.map fun k : Nat => (k : Int)) fun x y => decide (x ≤ y)).trans (hp.map _)
  exact List.Perm.eq_of_pairwise (fun a b _ _ h4 h5 => by simp at h4 h5; omega) h1 h2 h3
end Go.Proofs.Ytlmghmndojfjpaa.So8

namespace Go.Proofs.Ytlmghmndojfjpaa.Keys
open Go.RowKit Go.Shelf Go.Sort Go.Proofs.Ytlmghmndojfjpaa.Frm Go.Proofs.Ytlmghmndojfjpaa.MapRaw Go.Proofs.Ytlmghmndojfjpaa.Srt Go.Proofs.Ytlmghmndojfjpaa.So8
set_option linter.unusedVariables false
set_option linter.unusedSimpArgs false

set_option maxHeartbeats 1000000 in
theorem sort_row {base g cap : Nat} {ss L : List Nat} (w : World) (hrow : w.ownsRow base 5 1 (.slice (some ⟨g, 0, none⟩) ss.length cap) ss.length (ss.map enc8)) (hp : ss.Perm L) (hL : L.Pairwise (· < ·)) (hsz : ss.length < 4611686018427387904) :
    Calls Try.prog 27 #[.slice (some ⟨g, 0, none⟩) ss.length cap] w fun e w' => e = .returned (.tuple #[]) ∧ w'.ownsRow base 5 1 (.slice (some ⟨g, 0, none⟩) ss.length cap) L.length (L.map enc8) ∧ w.grownBy w' (some g) := by
  rcases hrow.2 with ⟨h0, _⟩ | ⟨g', cap', cur, e, hb, hh, h1, h2, h3, h4⟩
  · cases h0
  · simp only [Value.slice.injEq, Option.some.injEq, Addr.mk.injEq, and_true, true_and] at e
    obtain ⟨rfl, rfl⟩ := e
    have hl : (ss.map fun k : Nat => (k : Int)).length = ss.length := by simp
    have hH : Holds (Value.int .u8) w g 0 (ss.map fun k : Nat => (k : Int)).toArray := holds_of_block8 hh (by
      rw [hl]
      have h5 := h4
      rw [Nat.mul_one] at h5
      rw [h5, List.map_map]; rfl)
    have hc := sort8 g 0 cap (ss.map fun k : Nat => (k : Int)) w hH (heap_lt hh) (by simpa using hsz)
    rw [hl, merge_is hp hL] at hc
    refine hc.mono ?_
    rintro e w' ⟨rfl, n, os, rfl⟩
    refine ⟨rfl, ?_, grownBy_sorted8 _⟩
    have hlL : L.length = ss.length := hp.length_eq.symm
    refine ⟨by simp, .inr ⟨g, cap, _, by rw [hlL], hb, heap_sorted8 _ hh, by omega, h2, by simp [putCells, h3], ?_⟩⟩
    have h6 := take_putCells8 cur (L.map fun k : Nat => (k : Int)) (by simp; omega)
    rw [List.length_map] at h6
    rw [Nat.mul_one, h6, List.map_map]; rfl

set_option maxHeartbeats 2000000 in
theorem sorted_all (g : Nat) (lb : Array Value) (eg : ∀ args w, (callFunc g args).run Try.prog w = .ok (.enter g args) w) (f : Nat → Option Value) (Sp : List Nat → Prop) (w : World)
    (hseq : SeqStopsK Fence.wide 2 Try.prog g lb (fun k : Nat => #[.int .u8 (k : Int)]) (Kp w.heap.size) (fun xs => xs.Perm (keysOf f)) Sp 256 w) :
    Calls Try.prog 23 #[.func (.func g) #[] lb] w fun e W' => ∃ v, e = .returned v ∧ W'.ownsRow w.heap.size 5 1 v (keysOf f).length ((keysOf f).map enc8) ∧ Below w.heap.size w W' := by
  have hk256 : (keysOf f).length ≤ 256 := Nat.le_trans (List.length_filter_le _ _) (by simp)
  go_enter Try.func23, Try.ntmps23
  go_wp2_with (go_at_call 26; refine (collect_calls g lb eg _ Sp _ hseq).mono ?_; rintro e w1 ⟨v, ss, rfl, hS, hrow, hb⟩)
  have hlen := hS.length_eq
  rcases hrow.2 with ⟨rfl, h0⟩ | ⟨g', cap', cur, rfl, hb', _⟩
  · have hk : keysOf f = [] := List.length_eq_zero_iff.1 (by omega)
    have HK := Lib.hid hk
    have HB := Lib.hid (And.intro hb hrow)
    clear hk hlen h0 hrow hb hk256
    go_wp2_with (go_at_call 27; refine (sort_nil _).mono ?_; rintro e w' ⟨rfl, rfl⟩)
    go_ret
    refine ⟨_, rfl, ?_, HB.out.1⟩
    rw [HK.out]
    exact World.ownsRow_nil _ _ _ _
  · have HR := Lib.hid hrow
    have hss : ss.length < 4611686018427387904 := by omega
    have HL := Lib.hid hlen
    clear hrow hlen hk256
    go_wp2_with (go_at_call 27; refine (sort_row _ HR.out hS (keysOf_pairwise f) hss).mono ?_; rintro e w2 ⟨rfl, hr, hg⟩)
    go_ret
    refine ⟨_, rfl, ?_, ?_⟩
    · first | exact hr | simpa using hr
    · exact hb.trans ((Only.of_grownBy hg).below hb.size (fun k hk => by cases hk; exact hb'))
#print axioms sorted_all
end Go.Proofs.Ytlmghmndojfjpaa.Keys
