/- The library's sort at bytes: arrays in one block, Less, insertion sort. -/
import Derived.Test.YtlmghmndojfjpaaProg
import Derived.Test.YtlmghmndojfjpaaFrame
import Derived.WalkSpells
import Derived.RegionTactic
import Derived.ChangeAlike
import Derived.BigRegion
import Derived.BigQuiet
import Derived.Deep.QuietTactic
import Derived.IntWalk
namespace Go.Proofs.Ytlmghmndojfjpaa.Srt
open Go.RowKit Go.Proofs.Ytlmghmndojfjpaa.Frm
set_option linter.unusedVariables false
set_option linter.unusedSimpArgs false

/-- In block g, the first n cells are x. -/
structure Arr (w : World) (g s n : Nat) (x : Nat → Int) : Prop where
  blk : ∃ cur, w.heap[g]? = some (.cells cur 5 (0, 0)) ∧ cur.size = s ∧ ∀ i, i < n → cur[i]? = some (.int .u8 (x i))

section
variable {w w' : World} {g s n : Nat} {x : Nat → Int}
theorem Arr.cell (h : Arr w g s n x) {i : Nat} (hi : i < n) : w.cell? ⟨g, i, none⟩ = some (.int .u8 (x i)) := by
  obtain ⟨cur, hb, hz, hc⟩ := h.blk
  simp [World.cell?, hb, hc i hi]
theorem Arr.free (h : Arr w g s n x) (i : Nat) : w.frozen? ⟨g, i, none⟩ = false := by
  obtain ⟨cur, hb, hz, hc⟩ := h.blk
  simp [World.frozen?, hb]
theorem Arr.lt (h : Arr w g s n x) : g < w.heap.size := by
  obtain ⟨cur, hb, hz, hc⟩ := h.blk
  exact heap_lt hb
theorem Arr.block (h : Arr w g s n x) (e : w'.heap[g]? = w.heap[g]?) : Arr w' g s n x := by
  obtain ⟨cur, hb, hz, hc⟩ := h.blk
  exact ⟨cur, e.trans hb, hz, hc⟩
def put (x : Nat → Int) (i : Nat) (v : Int) : Nat → Int := fun j => if j = i then v else x j
theorem Arr.set (h : Arr w g s n x) {i : Nat} (hi : i < n) (v : Int) : Arr (w.setCell ⟨g, i, none⟩ (.int .u8 v)) g s n (put x i v) := by
  obtain ⟨cur, hb, hz, hc⟩ := h.blk
  refine ⟨cur.setIfInBounds i (.int .u8 v), ?_, by simpa using hz, fun j hj => ?_⟩
  · simp [World.setCell, Array.getElem?_modify, hb]
  · have hs : i < cur.size := by
      have := hc i hi
      exact (Array.getElem?_eq_some_iff.1 this).1
    unfold put
    rw [Array.getElem?_setIfInBounds]
    by_cases e : j = i
    · subst e; simp [hs]
    · rw [if_neg (fun e' => e e'.symm), if_neg e]; exact hc j hj
theorem Arr.only (h : Arr w g s n x) {S : Nat → Prop} (ho : Only S w w') (hg : ¬ S g) : Arr w' g s n x := h.block (ho.block g h.lt hg)
end

set_option maxHeartbeats 1000000 in
theorem isNaN_calls (a : Int) (w : World) : Calls Try.prog 48 #[.int .u8 a] w fun e w' => e = .returned (.bool false) ∧ w' = w := by
  go_enter Try.func48, Try.ntmps48
  go_wp2
  go_ret
  exact ⟨by simp, rfl⟩

def ltB (a b : Int) : Bool := decide (a < b)

set_option maxHeartbeats 1000000 in
theorem less_calls (a b : Int) (w : World) : Calls Try.prog 38 #[.int .u8 a, .int .u8 b] w fun e w' => e = .returned (.bool (ltB a b)) ∧ w' = w := by
  go_enter Try.func38, Try.ntmps38
  go_wp2_with (go_at_call 48; refine (isNaN_calls _ _).mono ?_; rintro e w' ⟨rfl, rfl⟩)
  go_ret
  exact ⟨rfl, rfl⟩

/-! ### orders -/
/-- y is x, but for an exchange of places within [a, b). -/
def Prm (a b : Nat) (x y : Nat → Int) : Prop :=
  ∃ s t : Nat → Nat, (∀ i, a ≤ i → i < b → a ≤ s i ∧ s i < b ∧ a ≤ t i ∧ t i < b ∧ t (s i) = i ∧ s (t i) = i ∧ y i = x (s i)) ∧ ∀ i, ¬ (a ≤ i ∧ i < b) → y i = x i
theorem Prm.refl (a b : Nat) (x : Nat → Int) : Prm a b x x := ⟨id, id, fun i h1 h2 => ⟨h1, h2, h1, h2, rfl, rfl, rfl⟩, fun _ _ => rfl⟩
theorem Prm.trans {a b : Nat} {x y z : Nat → Int} (h : Prm a b x y) (k : Prm a b y z) : Prm a b x z := by
  obtain ⟨s, t, h1, h2⟩ := h
  obtain ⟨u, v, k1, k2⟩ := k
  refine ⟨fun i => s (u i), fun i => v (t i), fun i ha hb => ?_, fun i hi => (k2 i hi).trans (h2 i hi)⟩
  obtain ⟨a1, a2, a3, a4, a5, a6, a7⟩ := k1 i ha hb
  obtain ⟨b1, b2, b3, b4, b5, b6, b7⟩ := h1 (u i) a1 a2
  obtain ⟨c1, c2, c3, c4, c5, c6, c7⟩ := h1 i ha hb
  obtain ⟨d1, d2, d3, d4, d5, d6, d7⟩ := k1 (t i) c3 c4
  exact ⟨b1, b2, d3, d4, by simp only [b5, a5], by simp only [d6, c6], a7.trans b7⟩
theorem Prm.mono {a b a' b' : Nat} {x y : Nat → Int} (h : Prm a b x y) (ha : a' ≤ a) (hb : b ≤ b') : Prm a' b' x y := by
  obtain ⟨s, t, h1, h2⟩ := h
  refine ⟨fun i => if a ≤ i ∧ i < b then s i else i, fun i => if a ≤ i ∧ i < b then t i else i, fun i hi1 hi2 => ?_, fun i hi => h2 i (fun h => hi ⟨by omega, by omega⟩)⟩
  by_cases hi : a ≤ i ∧ i < b
  · obtain ⟨a1, a2, a3, a4, a5, a6, a7⟩ := h1 i hi.1 hi.2
    simp only [if_pos hi, if_pos (And.intro a1 a2), if_pos (And.intro a3 a4)]
    exact ⟨by omega, by omega, by omega, by omega, a5, a6, a7⟩
  · simp only [if_neg hi]
    exact ⟨hi1, hi2, hi1, hi2, trivial, trivial, h2 i hi⟩
def swp (x : Nat → Int) (i j : Nat) : Nat → Int := put (put x i (x j)) j (x i)
theorem Prm.swap {a b i j : Nat} (x : Nat → Int) (hi : a ≤ i ∧ i < b) (hj : a ≤ j ∧ j < b) : Prm a b x (swp x i j) := by
  refine ⟨fun k => if k = j then i else if k = i then j else k, fun k => if k = j then i else if k = i then j else k, fun k h1 h2 => ?_, fun k hk => ?_⟩
  · unfold swp put
    by_cases e1 : k = j
    · subst e1
      by_cases e2 : i = k
      · subst e2; simp; omega
      · simp [e2]; omega
    · by_cases e2 : k = i
      · subst e2
        simp [e1]; omega
      · simp [e1, e2]; omega
  · unfold swp put
    rw [if_neg (by omega), if_neg (by omega)]
def Srtd (x : Nat → Int) (a b : Nat) : Prop := ∀ p q, a ≤ p → p < q → q < b → x p ≤ x q

/-- In the middle of an insertion: j is the one that sinks. -/
structure Ins (z : Nat → Int) (a k j : Nat) : Prop where
  rest : ∀ p q, a ≤ p → p < q → q ≤ k → p ≠ j → q ≠ j → z p ≤ z q
  up : ∀ q, j < q → q ≤ k → z j ≤ z q
theorem Ins.start {z : Nat → Int} {a k : Nat} (h : Srtd z a k) : Ins z a k k := ⟨fun p q h1 h2 h3 h4 h5 => h p q h1 h2 (by omega), fun q h1 h2 => by omega⟩
theorem Ins.stop {z : Nat → Int} {a k j : Nat} (h : Ins z a k j) (hd : j ≤ a ∨ (0 < j ∧ z (j - 1) ≤ z j)) : Srtd z a (k + 1) := by
  intro p q h1 h2 h3
  by_cases e1 : p = j
  · subst e1; exact h.up q h2 (by omega)
  · by_cases e2 : q = j
    · subst e2
      rcases hd with hd | ⟨hd0, hd⟩
      · omega
      · by_cases e3 : p = q - 1
        · subst e3; exact hd
        · exact Int.le_trans (h.rest p (q - 1) h1 (by omega) (by omega) e1 (by omega)) hd
    · exact h.rest p q h1 h2 (by omega) e1 e2
theorem Ins.step {z : Nat → Int} {a k m : Nat} (h : Ins z a k (m + 1)) (ha : a ≤ m) (hk : m + 1 ≤ k) (hlt : z (m + 1) < z m) : Ins (swp z (m + 1) m) a k m := by
  have e0 : swp z (m + 1) m m = z (m + 1) := by simp [swp, put]
  have e1 : swp z (m + 1) m (m + 1) = z m := by simp [swp, put]
  have e2 : ∀ i, i ≠ m → i ≠ m + 1 → swp z (m + 1) m i = z i := fun i h1 h2 => by simp [swp, put, h1, h2]
  refine ⟨fun p q h1 h2 h3 h4 h5 => ?_, fun q h1 h2 => ?_⟩
  · by_cases c1 : q = m + 1
    · subst c1
      rw [e1, e2 p h4 (by omega)]
      exact h.rest p m h1 (by omega) (by omega) (by omega) (by omega)
    · by_cases c2 : p = m + 1
      · subst c2
        rw [e1, e2 q h5 c1]
        exact h.rest m q (by omega) (by omega) h3 (by omega) c1
      · rw [e2 p h4 c2, e2 q h5 c1]
        exact h.rest p q h1 h2 h3 c2 c1
  · rw [e0]
    by_cases c1 : q = m + 1
    · subst c1; rw [e1]; omega
    · rw [e2 q (by omega) c1]; exact h.up q (by omega) h2
theorem ltB_true {a b : Int} (h : ltB a b = true) : a < b := of_decide_eq_true h
theorem ltB_false {a b : Int} (h : ltB a b = false) : b ≤ a := by have := of_decide_eq_false h; omega

set_option maxRecDepth 100000 in
set_option maxHeartbeats 4000000 in
theorem insertion_calls (g s n c : Nat) (x : Nat → Int) (a b : Nat) (hab : a ≤ b) (hb : b ≤ n) (hn : n ≤ 4096) (w : World) (h : Arr w g s n x) :
    Calls Try.prog 32 #[.slice (some ⟨g, 0, none⟩) n c, .int .i64 (a : Int), .int .i64 (b : Int)] w fun e w' => e = .returned (.tuple #[]) ∧ ∃ y, Arr w' g s n y ∧ Prm a b x y ∧ Srtd y a b ∧ Only (fun k => k = g) w w' := by
  go_enter Try.func32, Try.ntmps32
  go_wp2
  go_loopw [6] (fun i wr => ∃ (k : Nat) (y : Nat → Int), i = .int .i64 (k : Int) ∧ a + 1 ≤ k ∧ Arr wr g s n y ∧ Prm a b x y ∧ Srtd y a k ∧ Only (fun k => k = g) w wr) (fun i _ => (b + 1 - (intOf i).toNat))
  case atStart => exact ⟨a + 1, x, by go_num, by omega, h, Prm.refl _ _ _, fun p q h1 h2 h3 => by omega, Only.refl _ _⟩
  case round =>
    obtain ⟨k, y, rfl, hk, hA, hP, hS, hO⟩ := hrel
    have HS := Lib.hid hS
    clear hS
    by_cases hlt : k < b
    · go_wp2
      obtain ⟨wo, rfl⟩ : ∃ wo : World, wo = wr := ⟨_, rfl⟩
      go_loopw [7] (fun i wr => ∃ (j : Nat) (z : Nat → Int), i = .int .i64 (j : Int) ∧ a ≤ j ∧ j ≤ k ∧ Arr wr g s n z ∧ Prm a b x z ∧ Ins z a k j ∧ Only (fun k => k = g) w wr) (fun i _ => (intOf i).toNat)
      case atStart => exact ⟨k, y, rfl, by omega, by omega, hA, hP, Ins.start HS.out, hO⟩
      case round =>
        obtain ⟨j, z, rfl, hj1, hj2, hA2, hP2, hI2, hO2⟩ := hrel
        have HI := Lib.hid hI2
        clear hI2
        by_cases hc : a < j
        · obtain ⟨m, rfl⟩ : ∃ m, j = m + 1 := ⟨j - 1, by omega⟩
          have hcell1 := hA2.cell (i := m + 1) (by omega)
          have hcell0 := hA2.cell (i := m) (by omega)
          have hfr1 := hA2.free (m + 1)
          have hfr0 := hA2.free m
          have gd : decide ((a : Int) < (m : Int) + 1) = true := decide_eq_true (by omega)
          cases hb : ltB (z (m + 1)) (z m) with
          | true =>
            have HL := Lib.hid (ltB_true hb)
            go_wp2
            go_quiet ((go_at_call 38; exact Calls.quiet_of_same (less_calls _ _ _)))
            go_wp2
            generalize hwq : wr.drewN _ = W2
            have hA3 : Arr W2 g s n z := by rw [← hwq]; exact hA2.block rfl
            have hO3 : Only (fun k => k = g) w W2 := by rw [← hwq]; exact hO2.drewN _
            clear hwq hcell1 hcell0 hfr1 hfr0
            have hcell1 := hA3.cell (i := m + 1) (by omega)
            have hcell0 := hA3.cell (i := m) (by omega)
            have hfr1 := hA3.free (m + 1)
            have hfr0 := hA3.free m
            go_region
            all_goals
              go_wp2
              go_roundw
              case rel => exact ⟨m, swp z (m + 1) m, rfl, by omega, by omega, (Arr.set (i := m) (Arr.set (i := m + 1) hA3 (by omega) (z m)) (by omega) (z (m + 1))).block rfl, hP2.trans (Prm.swap z ⟨by omega, by omega⟩ ⟨by omega, by omega⟩), HI.out.step (by omega) (by omega) HL.out, ((hO3.setCell (.inr rfl) _).setCell (.inr rfl) _).drew⟩
              case measure => first | (simp [intOf]; done) | (simp [intOf]; omega)
          | false =>
            have HL := Lib.hid (ltB_false hb)
            go_wp2
            go_quiet ((go_at_call 38; exact Calls.quiet_of_same (less_calls _ _ _)))
            go_wp2
            go_roundw
            case rel => exact ⟨k + 1, z, by go_num, by omega, hA2.block rfl, hP2, HI.out.stop (.inr ⟨by omega, by simpa using HL.out⟩), hO2.drewN _⟩
            case measure => simp [intOf]; omega
        · have gd : decide ((a : Int) < (j : Int)) = false := decide_eq_false (by omega)
          go_wp2
          go_quiet (fail)
          go_wp2
          go_roundw
          case rel => exact ⟨k + 1, z, by go_num, by omega, hA2.block rfl, hP2, HI.out.stop (.inl (by omega)), hO2.drewN _⟩
          case measure => simp [intOf]; omega
    · go_wp2
      go_end0
      exact ⟨rfl, y, hA, hP, fun p q h1 h2 h3 => HS.out p q h1 h2 (by omega), hO⟩
#print axioms insertion_calls
end Go.Proofs.Ytlmghmndojfjpaa.Srt
