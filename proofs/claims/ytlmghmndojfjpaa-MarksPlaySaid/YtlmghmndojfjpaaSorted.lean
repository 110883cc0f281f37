/- slices.Sorted of a map's keys (bytes): the keys, in order; for maps of at most N keys, N the sort's bound. -/
import Derived.Test.YtlmghmndojfjpaaCollect
import Derived.Test.YtlmghmndojfjpaaSort1
namespace Go.Proofs.Ytlmghmndojfjpaa.Keys
open Go.RowKit Go.Shelf Go.Proofs.Ytlmghmndojfjpaa.Frm Go.Proofs.Ytlmghmndojfjpaa.MapRaw Go.Proofs.Ytlmghmndojfjpaa.Srt
set_option linter.unusedVariables false
set_option linter.unusedSimpArgs false

/-- What the list says at a place. -/
def at8 (ss : List Nat) (i : Nat) : Int := (ss.getD i 0 : Nat)

theorem arr_of_row {w : World} {base g cap : Nat} {ss : List Nat} (h : w.ownsRow base 5 1 (.slice (some ⟨g, 0, none⟩) ss.length cap) ss.length (ss.map enc8)) : Arr w g cap ss.length (at8 ss) ∧ base ≤ g ∧ ss.length ≤ cap ∧ cap ≤ maxLen := by
  rcases h.2 with ⟨h1, _⟩ | ⟨g', cap', cur, e, hb, hh, h1, h2, h3, h4⟩
  · cases h1
  · simp only [Value.slice.injEq, Option.some.injEq, Addr.mk.injEq, and_true, true_and] at e
    obtain ⟨rfl, rfl⟩ := e
    refine ⟨⟨cur, hh, by simpa using h3, fun i hi => ?_⟩, hb, by simpa using h1, h2⟩
    have h5 : (cur.toList.take (ss.length * 1))[i]? = (ss.map enc8)[i]? := by rw [h4]
    rw [List.getElem?_take, if_pos (by omega), List.getElem?_map, List.getElem?_eq_getElem hi, Array.getElem?_toList] at h5
    rw [h5]
    simp [enc8, at8, hi]

theorem row_of_arr {w : World} {base g cap n : Nat} {x : Nat → Int} {ss : List Nat} (h : Arr w g cap n x) (hb : base ≤ g) (hn : n ≤ cap) (hm : cap ≤ maxLen) (hl : ss.length = n) (hx : ∀ i, i < n → x i = at8 ss i) :
    w.ownsRow base 5 1 (.slice (some ⟨g, 0, none⟩) n cap) ss.length (ss.map enc8) := by
  obtain ⟨cur, hh, hz, hc⟩ := h.blk
  subst hl
  refine ⟨by simp, .inr ⟨g, cap, cur, rfl, hb, hh, by simpa using hn, hm, by simpa using hz, ?_⟩⟩
  refine List.ext_getElem? fun i => ?_
  rw [List.getElem?_take]
  by_cases hi : i < ss.length
  · rw [if_pos (by omega), Array.getElem?_toList, hc i hi, List.getElem?_map, List.getElem?_eq_getElem hi, hx i hi]
    simp [enc8, at8, hi]
  · rw [if_neg (by omega), List.getElem?_map, List.getElem?_eq_none (by omega)]
    rfl

/-- Sorted, it is the one order. -/
theorem sorted_is {n : Nat} {ss L : List Nat} {y : Nat → Int} (hn : ss.length = n) (hp : ss.Perm L) (hL : L.Pairwise (· < ·)) (hP : Prm 0 n (at8 ss) y) (hS : Srtd y 0 n) : L.length = n ∧ ∀ i, i < n → y i = at8 L i := by
  obtain ⟨s, t, h1, h2⟩ := hP
  have hlen : L.length = n := by rw [← hp.length_eq, hn]
  have hy : ∀ i, i < n → y i = ((ss.getD (s i) 0 : Nat) : Int) := fun i hi => (h1 i (Nat.zero_le _) hi).2.2.2.2.2.2
  have e1 : ((List.range n).map fun i => ss.getD (s i) 0).Perm ss := by
    have e2 : ((List.range n).map s).Perm (List.range n) := by
      refine perm_of_nodup ?_ List.nodup_range fun x => ?_
      · unfold List.Nodup
        rw [List.pairwise_map]
        refine List.Pairwise.imp_of_mem ?_ (List.nodup_range (n := n))
        intro a b ha hb hab e
        have h3 := (h1 a (Nat.zero_le _) (List.mem_range.1 ha)).2.2.2.2.1
        have h4 := (h1 b (Nat.zero_le _) (List.mem_range.1 hb)).2.2.2.2.1
        rw [e, h4] at h3
        exact hab h3.symm
      · rw [List.mem_map, List.mem_range]
        constructor
        · rintro ⟨i, hi, rfl⟩
          exact (h1 i (Nat.zero_le _) (List.mem_range.1 hi)).2.1
        · intro hx
          exact ⟨t x, List.mem_range.2 (h1 x (Nat.zero_le _) hx).2.2.2.1, (h1 x (Nat.zero_le _) hx).2.2.2.2.2.1⟩
    have e3 : ((List.range n).map fun i => ss.getD i 0) = ss := by
      refine List.ext_getElem? fun i => ?_
      rw [List.getElem?_map]
      by_cases hi : i < n
      · rw [List.getElem?_range hi]
        simp [List.getElem?_eq_getElem (show i < ss.length by omega)]
      · rw [List.getElem?_eq_none (by simpa using hi), List.getElem?_eq_none (by omega)]
        rfl
    have e4 := e2.map (fun i => ss.getD i 0)
    rw [e3, List.map_map] at e4
    exact e4
  have e5 : ((List.range n).map fun i => ss.getD (s i) 0).Pairwise (· ≤ ·) := by
    rw [List.pairwise_map]
    refine List.Pairwise.imp_of_mem ?_ (List.pairwise_lt_range (n := n))
    intro a b ha hb hab
    have := hS a b (Nat.zero_le _) hab (List.mem_range.1 hb)
    rw [hy a (List.mem_range.1 ha), hy b (List.mem_range.1 hb)] at this
    omega
  have e6 : ((List.range n).map fun i => ss.getD (s i) 0) = L :=
    List.Perm.eq_of_pairwise (le := (· ≤ ·)) (fun a b _ _ h1 h2 => Nat.le_antisymm h1 h2) e5 (hL.imp fun h => Nat.le_of_lt h) (e1.trans hp)
  refine ⟨hlen, fun i hi => ?_⟩
  rw [hy i hi]
  unfold at8
  have e7 : L.getD i 0 = ss.getD (s i) 0 := by
    rw [← e6]
    simp [List.getD_eq_getElem?_getD, List.getElem?_map, List.getElem?_range hi]
  rw [e7]

theorem row_lower {w : World} {base base' : Nat} {e : TypeId} {size n : Nat} {v : Value} {xs : List Value} (h : w.ownsRow base e size v n xs) (hb : base' ≤ base) : w.ownsRow base' e size v n xs := by
  obtain ⟨h1, h2⟩ := h
  rcases h2 with h2 | ⟨g, cap, cur, e1, e2, r⟩
  · exact ⟨h1, .inl h2⟩
  · exact ⟨h1, .inr ⟨g, cap, cur, e1, by omega, r⟩⟩

theorem keysOf_pairwise (f : Nat → Option Value) : (keysOf f).Pairwise (· < ·) := (List.pairwise_lt_range (n := 256)).filter _

set_option maxHeartbeats 2000000 in
theorem sorted_calls (g : Nat) (lb : Array Value) (eg : ∀ args w, (callFunc g args).run Try.prog w = .ok (.enter g args) w) (f : Nat → Option Value) (hf : (keysOf f).length ≤ 12) (Sp : List Nat → Prop) (w : World)
    (hseq : SeqStopsK Fence.wide 2 Try.prog g lb (fun k : Nat => #[.int .u8 (k : Int)]) (Kp w.heap.size) (fun xs => xs.Perm (keysOf f)) Sp 256 w) :
    Calls Try.prog 23 #[.func (.func g) #[] lb] w fun e W' => ∃ v, e = .returned v ∧ W'.ownsRow w.heap.size 5 1 v (keysOf f).length ((keysOf f).map enc8) ∧ Below w.heap.size w W' := by
  go_enter Try.func23, Try.ntmps23
  go_wp2_with (go_at_call 26; refine (collect_calls g lb eg _ Sp _ hseq).mono ?_; rintro e w1 ⟨v, ss, rfl, hS, hrow, hb⟩)
  have hlen := hS.length_eq
  rcases hrow.2 with ⟨rfl, h0⟩ | ⟨g', cap', cur, rfl, hb', _⟩
  · have hk : keysOf f = [] := List.length_eq_zero_iff.1 (by omega)
    have HK := Lib.hid hk
    have HB := Lib.hid (And.intro hb hrow)
    clear hk hlen h0 hrow hb
    go_wp2_with (go_at_call 27; refine (sort_nil _).mono ?_; rintro e w' ⟨rfl, rfl⟩)
    go_ret
    refine ⟨_, rfl, ?_, HB.out.1⟩
    rw [HK.out]
    exact World.ownsRow_nil _ _ _ _
  · obtain ⟨hA, hg, hc, hm⟩ := arr_of_row hrow
    have HL := Lib.hid hlen
    have hs12 : ss.length ≤ 12 := by omega
    have HR := Lib.hid hrow
    clear hlen hrow
    go_wp2_with (go_at_call 27; refine (sort_arr g' cap' ss.length cap' _ hs12 _ hA).mono ?_; rintro e w2 ⟨rfl, y, hA2, hP, hS2, hO⟩)
    go_ret
    obtain ⟨hL, hy⟩ := sorted_is rfl hS (keysOf_pairwise f) hP hS2
    have hr := row_of_arr hA2 hg hc hm hL hy
    refine ⟨_, rfl, hr, ?_⟩
    exact hb.trans (hO.below hb.size (fun k hk => by subst hk; exact hg))
#print axioms sorted_calls
end Go.Proofs.Ytlmghmndojfjpaa.Keys
