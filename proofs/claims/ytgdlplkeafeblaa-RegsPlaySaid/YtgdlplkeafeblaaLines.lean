/- Lines: slices of strings, held against their lists. -/
import Derived.Test.YtgdlplkeafeblaaProg
import Derived.Test.YtgdlplkeafeblaaFrame
import Derived.WalkSpells
import Derived.Lib.Strings
import Derived.RegionTactic
import Derived.BigRegion
import Derived.BigQuiet
import Derived.Deep.QuietTactic
namespace Go.Proofs.Ytgdlplkeafeblaa.Lns
open Go.RowKit Go.Proofs.Ytgdlplkeafeblaa.MapRaw Go.Proofs.Ytgdlplkeafeblaa.Frm
set_option linter.unusedVariables false
set_option linter.unusedSimpArgs false

def lat (L : List ByteArray) (i : Nat) : ByteArray := L.getD i ByteArray.empty

/-- At these cells lie these lines. -/
structure Lines (w : World) (A : Option Addr) (n c : Nat) (L : List ByteArray) : Prop where
  len : n = L.length
  cap : n ≤ c
  max : c ≤ maxLen
  nil : A = none → c = 0
  cells : n = 0 ∨ ∃ b off, A = some ⟨b, off, none⟩ ∧ b < w.heap.size ∧ ∀ i, i < n → w.cell? ⟨b, off + i, none⟩ = some (.string (lat L i))

def sizeL (L : List ByteArray) : Nat := (L.map fun s => s.size + 1).sum
theorem sizeL_nil : sizeL [] = 0 := rfl
theorem sizeL_append (a b : List ByteArray) : sizeL (a ++ b) = sizeL a + sizeL b := by simp [sizeL]
theorem sizeL_cons (s : ByteArray) (b : List ByteArray) : sizeL (s :: b) = s.size + 1 + sizeL b := by simp [sizeL]
theorem take_succ_lat {L : List ByteArray} {i : Nat} (h : i < L.length) : L.take (i + 1) = L.take i ++ [lat L i] := by
  rw [List.take_add_one, List.getElem?_eq_getElem h]
  simp [lat, List.getD_eq_getElem?_getD, List.getElem?_eq_getElem h]
theorem sizeL_take {L : List ByteArray} {i : Nat} (h : i < L.length) : sizeL (L.take (i + 1)) = sizeL (L.take i) + ((lat L i).size + 1) := by
  rw [take_succ_lat h, sizeL_append]; rfl
theorem sizeL_le (L : List ByteArray) (i : Nat) : sizeL (L.take i) ≤ sizeL L := by
  conv => rhs; rw [← List.take_append_drop i L]
  rw [sizeL_append]; omega
theorem ext_lat {a b : List ByteArray} (hl : a.length = b.length) (h : ∀ i, i < a.length → lat a i = lat b i) : a = b := by
  refine List.ext_getElem hl fun i h1 h2 => ?_
  have := h i h1
  simpa [lat, List.getD_eq_getElem?_getD, List.getElem?_eq_getElem h1, List.getElem?_eq_getElem h2] using this

theorem neq_list {a b : ByteArray} (h : a ≠ b) : (a.toList == b.toList) = false := by
  rw [beq_eq_false_iff_ne]
  intro e
  rw [Lib.toList_data, Lib.toList_data] at e
  obtain ⟨⟨x⟩⟩ := a
  obtain ⟨⟨y⟩⟩ := b
  simp at e
  subst e
  exact h rfl

section
variable {w w' : World} {A : Option Addr} {n c : Nat} {L : List ByteArray}
/-- A block in which there is no string. -/
def Bare (w : World) (b : Nat) : Prop := ∀ o s, w.cell? ⟨b, o, none⟩ ≠ some (.string s)

theorem Lines.only {S : Nat → Prop} (h : Lines w A n c L) (ho : Only S w w') (hS : ∀ b, b < w.heap.size → S b → Bare w b) : Lines w' A n c L := by
  refine ⟨h.len, h.cap, h.max, h.nil, ?_⟩
  rcases Nat.eq_zero_or_pos n with h0 | hp
  · exact .inl h0
  · rcases h.cells with h0 | ⟨b, off, rfl, hb, hc⟩
    · omega
    · refine .inr ⟨b, off, rfl, Nat.lt_of_lt_of_le hb ho.size, fun i hi => ?_⟩
      have hn : ¬ S b := fun hs => hS b hb hs _ _ (hc 0 hp)
      rw [cell_block (ho.block b hb hn)]
      exact hc i hi
theorem Lines.below (h : Lines w A n c L) (hb : Below w.heap.size w w') : Lines w' A n c L := h.only (Only.of_below (S := No) hb) (fun _ _ h => h.elim)
theorem bare_map {M : Nat} {a : Array MapEntry} {b : Nat} (h : w.heap[M]? = some (.map a b)) : Bare w M := by
  intro o s e
  simp [World.cell?, h] at e
theorem bare_cells {M : Nat} {cs : Array Value} {t : TypeId} {fr : Nat × Nat} (h : w.heap[M]? = some (.cells cs t fr)) (hc : ∀ (o : Nat) s, cs[o]? ≠ some (.string s)) : Bare w M := by
  intro o s e
  simp [World.cell?, h] at e
  exact hc _ _ e


theorem Lines.at (h : Lines w A n c L) {k : Nat} (hk : k < n) : ∃ b off, A = some ⟨b, off, none⟩ ∧ b < w.heap.size ∧ w.cell? ⟨b, off + k, none⟩ = some (.string (lat L k)) := by
  rcases h.cells with h0 | ⟨b, off, rfl, hb, hc⟩
  · omega
  · exact ⟨b, off, rfl, hb, hc k hk⟩

set_option maxHeartbeats 1000000 in
theorem size5_calls (A : Option Addr) (n c : Nat) (L : List ByteArray) (w : World) (h : Lines w A n c L) (hs : sizeL L ≤ 4611686018427387904) :
    Calls Try.prog 16 #[.slice A n c] w fun e w' => e = .returned (.int .i64 (sizeL L : Nat)) ∧ w = w' := by
  have hm := h.max
  unfold maxLen at hm
  have hcap := h.cap
  have hl := h.len
  go_enter Try.func16, Try.ntmps16
  go_wp2
  go_loop [3, 4] (fun t i => ∃ k : Nat, i = .int .i64 (k : Int) ∧ k ≤ n ∧ t = .int .i64 (sizeL (L.take k) : Nat)) (fun _ i => n - (intOf i).toNat)
  case atStart => exact ⟨0, rfl, by omega, rfl⟩
  case round =>
    obtain ⟨k, rfl, hk, rfl⟩ := hrel
    have hle := sizeL_le L k
    by_cases hlt : k < n
    · obtain ⟨b, off, rfl, hb, hcell⟩ := h.at hlt
      have htk := sizeL_take (L := L) (i := k) (by omega)
      have hle2 := sizeL_le L (k + 1)
      clear h
      go_wp2
      go_round
      case rel => exact ⟨k + 1, by first | rfl | (simp; done) | (simp; omega), by omega, by rw [htk]; first | rfl | (simp; done) | (simp; omega)⟩
      case measure => first | (simp [intOf]; done) | (simp [intOf]; omega)
    · obtain rfl : k = n := by omega
      have htk : L.take k = L := by rw [hl, List.take_length]
      rw [htk]
      clear h
      go_wp2
      go_ret
      exact ⟨rfl, rfl⟩

set_option maxHeartbeats 1000000 in
theorem sizeC_calls (A : Option Addr) (n c : Nat) (L : List ByteArray) (w : World) (h : Lines w A n c L) (hs : sizeL L ≤ 4611686018427387904) :
    Calls Try.prog 30 #[.slice A n c] w fun e w' => e = .returned (.int .i64 (sizeL L : Nat)) ∧ w = w' := by
  have hm := h.max
  unfold maxLen at hm
  have hcap := h.cap
  have hl := h.len
  go_enter Try.func30, Try.ntmps30
  go_wp2
  go_loop [3, 8] (fun t i => ∃ k : Nat, i = .int .i64 (k : Int) ∧ k ≤ n ∧ t = .int .i64 (sizeL (L.take k) : Nat)) (fun _ i => n - (intOf i).toNat)
  case atStart => exact ⟨0, rfl, by omega, rfl⟩
  case round =>
    obtain ⟨k, rfl, hk, rfl⟩ := hrel
    have hle := sizeL_le L k
    by_cases hlt : k < n
    · obtain ⟨b, off, rfl, hb, hcell⟩ := h.at hlt
      have htk := sizeL_take (L := L) (i := k) (by omega)
      have hle2 := sizeL_le L (k + 1)
      clear h
      go_wp2
      go_round
      case rel => exact ⟨k + 1, by first | rfl | (simp; done) | (simp; omega), by omega, by rw [htk]; first | rfl | (simp; done) | (simp; omega)⟩
      case measure => first | (simp [intOf]; done) | (simp [intOf]; omega)
    · obtain rfl : k = n := by omega
      have htk : L.take k = L := by rw [hl, List.take_length]
      rw [htk]
      clear h
      go_wp2
      go_ret
      exact ⟨rfl, rfl⟩

set_option maxHeartbeats 1000000 in
theorem strings_calls (A : Option Addr) (n c : Nat) (L : List ByteArray) (A' : Option Addr) (n' c' : Nat) (L' : List ByteArray) (w : World) (h : Lines w A n c L) (h' : Lines w A' n' c' L') :
    Calls Try.prog 20 #[.slice A n c, .slice A' n' c'] w fun e w' => e = .returned (.bool (decide (L = L'))) ∧ Only No w w' := by
  have hm := h.max
  unfold maxLen at hm
  have hcap := h.cap
  have hl := h.len
  have hm' := h'.max
  unfold maxLen at hm'
  have hcap' := h'.cap
  have hl' := h'.len
  go_enter Try.func20, Try.ntmps20
  by_cases hnn : n = n'
  · subst hnn
    go_wp2
    go_loopw [5] (fun i wr => ∃ k : Nat, i = .int .i64 (k : Int) ∧ k ≤ n ∧ (∀ j, j < k → lat L j = lat L' j) ∧ Only No w wr) (fun i _ => n - (intOf i).toNat)
    case atStart => exact ⟨0, rfl, by omega, fun j hj => by omega, Only.refl _ _⟩
    case round =>
      obtain ⟨k, rfl, hk, he, hO⟩ := hrel
      by_cases hlt : k < n
      · obtain ⟨b, off, rfl, hb, hcell⟩ := h.at hlt
        obtain ⟨b', off', rfl, hb', hcell'⟩ := h'.at hlt
        replace hcell := (hO.below_size.cell (p := ⟨b, off + k, none⟩) hb).trans hcell
        replace hcell' := (hO.below_size.cell (p := ⟨b', off' + k, none⟩) hb').trans hcell'
        clear h h'
        have g0 : (0 : Int) ≤ (k : Int) := by omega
        have g1 : (k : Int) < (n : Int) := by omega
        by_cases hq : lat L k = lat L' k
        · rw [← hq] at hcell'
          go_wp2
          go_quiet (fail)
          go_wp2
          go_roundw
          case rel => exact ⟨k + 1, by first | rfl | (simp; done) | (simp; omega), by omega, fun j hj => by
            rcases Nat.lt_or_ge j k with h1 | h1
            · exact he j h1
            · obtain rfl : j = k := by omega
              exact hq, hO.drewN _⟩
          case measure => first | (simp [intOf]; done) | (simp [intOf]; omega)
        · have hq2 : ((lat L k).toList == (lat L' k).toList) = false := neq_list hq
          have e : L ≠ L' := by rintro rfl; exact hq rfl
          go_wp2
          go_quiet (fail)
          go_wp2
          go_ret
          exact ⟨by simp [e], hO.drewN _⟩
      · obtain rfl : k = n := by omega
        have e := ext_lat (a := L) (b := L') (by omega) (fun i hi => he i (by omega))
        subst e
        clear h h'
        go_wp2
        go_ret
        exact ⟨by simp, hO⟩
  · have e : L ≠ L' := by rintro rfl; omega
    clear h h'
    go_wp2
    go_ret
    exact ⟨by simp [e], Only.refl _ _⟩
end
end Go.Proofs.Ytgdlplkeafeblaa.Lns
