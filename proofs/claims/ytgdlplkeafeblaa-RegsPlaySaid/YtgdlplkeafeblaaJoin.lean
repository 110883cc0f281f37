/- regs.Join, walked. -/
import Derived.Test.YtgdlplkeafeblaaConcat
import Derived.Test.YtgdlplkeafeblaaRegs0
import Derived.Laws.Concat
namespace Go.Proofs.Ytgdlplkeafeblaa.Rg
open Go.RowKit Go.Proofs.Ytgdlplkeafeblaa.MapRaw Go.Proofs.Ytgdlplkeafeblaa.Frm Go.Proofs.Ytgdlplkeafeblaa.Lns
set_option linter.unusedVariables false
set_option linter.unusedSimpArgs false
attribute [local go_sem ↓] Go.wp_at_zero Go.wp_at_succ

/-- Two registers as one. -/
def join (a b : Reg) : Reg :=
  if a.1 ≠ 0 ∨ b.1 ≠ 0 then (1, a.2 ++ b.2)
  else if a.2.length = 0 ∨ b.2.length = 0 then (0, a.2 ++ b.2)
  else (0, a.2.take (a.2.length - 1) ++ [lat a.2 (a.2.length - 1) ++ lat b.2 0] ++ b.2.drop 1)

/-- A register's store: behind it. -/
theorem store_reg {w : World} {g : Nat} {k0 k : Int} {A0 : Option Addr} {n0 c0 : Nat} {A : Option Addr} {n c : Nat} {L : List ByteArray} (h : w.heap[g]? = some (.cells #[.int .i64 k0, .slice A0 n0 c0] 24 (0, 0))) (hl : Lines w A n c L) :
    Lines ((w.setCell ⟨g, 0, none⟩ (.int .i64 k)).setCell ⟨g, 1, none⟩ (.slice A n c)) A n c L ∧ Only (fun b => b = g) w ((w.setCell ⟨g, 0, none⟩ (.int .i64 k)).setCell ⟨g, 1, none⟩ (.slice A n c)) ∧
    ((w.setCell ⟨g, 0, none⟩ (.int .i64 k)).setCell ⟨g, 1, none⟩ (.slice A n c)).cell? ⟨g, 0, none⟩ = some (.int .i64 k) ∧ ((w.setCell ⟨g, 0, none⟩ (.int .i64 k)).setCell ⟨g, 1, none⟩ (.slice A n c)).cell? ⟨g, 1, none⟩ = some (.slice A n c) := by
  have hbare : Bare w g := bare_cells h (fun o s => by rcases o with _ | _ | o <;> simp)
  have k1 : w.cell? ⟨g, 0, none⟩ = some (.int .i64 k0) := by simp [World.cell?, h]
  have k2 : w.cell? ⟨g, 1, none⟩ = some (.slice A0 n0 c0) := by simp [World.cell?, h]
  refine ⟨hl.only (only_two _ _ _ _) (fun b _ e => by subst e; exact hbare), only_two _ _ _ _, ?_, ?_⟩
  · clear h; go_simp
  · clear h; go_simp
theorem reg_cells {w : World} {g : Nat} {k0 : Int} {A0 : Option Addr} {n0 c0 : Nat} (h : w.heap[g]? = some (.cells #[.int .i64 k0, .slice A0 n0 c0] 24 (0, 0))) :
    w.cell? ⟨g, 0, none⟩ = some (.int .i64 k0) ∧ w.cell? ⟨g, 1, none⟩ = some (.slice A0 n0 c0) ∧ w.frozen? ⟨g, 0, none⟩ = false ∧ w.frozen? ⟨g, 1, none⟩ = false := by
  refine ⟨?_, ?_, ?_, ?_⟩ <;> simp [World.cell?, World.frozen?, h]

/-- Two lines' slices side by side. -/
def two (A : Option Addr) (n c : Nat) (L : List ByteArray) (A' : Option Addr) (n' c' : Nat) (L' : List ByteArray) : Nat → Part := fun i => if i = 0 then (A, n, c, L) else (A', n', c', L')
theorem flat_two {A : Option Addr} {n c : Nat} {L : List ByteArray} {A' : Option Addr} {n' c' : Nat} {L' : List ByteArray} : flat (two A n c L A' n' c' L') 2 = L ++ L' := by
  rw [flat_succ, flat_succ]; simp [flat, two]
theorem parts_two {w : World} {A : Option Addr} {n c : Nat} {L : List ByteArray} {A' : Option Addr} {n' c' : Nat} {L' : List ByteArray} {g : Nat} (hg : w.heap.size = g) (h : Lines w A n c L) (h' : Lines w A' n' c' L') :
    Parts (w.alloc (.cells #[.slice A n c, .slice A' n' c'] 22)) g 0 2 (two A n c L A' n' c' L') := by
  subst hg
  have hb : Below w.heap.size w (w.alloc (.cells #[.slice A n c, .slice A' n' c'] 22)) := (Below.refl _ w).alloc (Nat.le_refl _) _
  refine ⟨by simp, fun i hi => ?_, fun i hi => ?_⟩
  · rw [cell_new]
    rcases (show i = 0 ∨ i = 1 by omega) with rfl | rfl <;> simp [two]
  · rcases (show i = 0 ∨ i = 1 by omega) with rfl | rfl
    · exact h.below hb
    · exact h'.below hb

/-- Three lines' slices side by side. -/
def three (p q r : Part) : Nat → Part := fun i => if i = 0 then p else if i = 1 then q else r
theorem flat_three (p q r : Part) : flat (three p q r) 3 = p.2.2.2 ++ q.2.2.2 ++ r.2.2.2 := by
  rw [flat_succ, flat_succ, flat_succ]; simp [flat, three]
theorem parts_three {w : World} (p q r : Part) {g : Nat} (hg : w.heap.size = g) (h : Lines w p.1 p.2.1 p.2.2.1 p.2.2.2) (h' : Lines w q.1 q.2.1 q.2.2.1 q.2.2.2) (h'' : Lines w r.1 r.2.1 r.2.2.1 r.2.2.2) :
    Parts (w.alloc (.cells #[.slice p.1 p.2.1 p.2.2.1, .slice q.1 q.2.1 q.2.2.1, .slice r.1 r.2.1 r.2.2.1] 22)) g 0 3 (three p q r) := by
  subst hg
  have hb : Below w.heap.size w (w.alloc (.cells #[.slice p.1 p.2.1 p.2.2.1, .slice q.1 q.2.1 q.2.2.1, .slice r.1 r.2.1 r.2.2.1] 22)) := (Below.refl _ w).alloc (Nat.le_refl _) _
  refine ⟨by simp, fun i hi => ?_, fun i hi => ?_⟩
  · rw [cell_new]
    rcases (show i = 0 ∨ i = 1 ∨ i = 2 by omega) with rfl | rfl | rfl <;> simp [three]
  · rcases (show i = 0 ∨ i = 1 ∨ i = 2 by omega) with rfl | rfl | rfl
    · exact h.below hb
    · exact h'.below hb
    · exact h''.below hb
theorem lat_take {L : List ByteArray} {m i : Nat} (h : i < m) : lat (L.take m) i = lat L i := by
  simp [lat, List.getD_eq_getElem?_getD, List.getElem?_take, h]
theorem lat_drop {L : List ByteArray} {m i : Nat} : lat (L.drop m) i = lat L (m + i) := by
  simp [lat, List.getD_eq_getElem?_getD, List.getElem?_drop]
theorem lines_take {w : World} {A : Option Addr} {n c : Nat} {L : List ByteArray} (h : Lines w A n c L) {m : Nat} (hm : m ≤ n) : Lines w A m c (L.take m) := by
  refine ⟨by rw [List.length_take, ← h.len]; omega, Nat.le_trans hm h.cap, h.max, h.nil, ?_⟩
  rcases h.cells with h0 | ⟨b, off, rfl, hb, hc⟩
  · left; omega
  · exact .inr ⟨b, off, rfl, hb, fun i hi => by rw [lat_take hi]; exact hc i (by omega)⟩
theorem lines_drop {w : World} {b off n c : Nat} {L : List ByteArray} (h : Lines w (some ⟨b, off, none⟩) n c L) {m : Nat} (hm : m ≤ n) : Lines w (some ⟨b, off + m, none⟩) (n - m) (c - m) (L.drop m) := by
  have := h.cap
  have hx := h.max
  refine ⟨by rw [List.length_drop, ← h.len], by omega, by omega, (by intro e; cases e), ?_⟩
  rcases h.cells with h0 | ⟨b', off', e, hb, hc⟩
  · left; omega
  · cases e
    refine .inr ⟨b, off + m, rfl, hb, fun i hi => ?_⟩
    rw [lat_drop, show off + m + i = off + (m + i) by omega]
    exact hc _ (by omega)
theorem lines_drop0 {w : World} {A : Option Addr} {n c : Nat} {L : List ByteArray} (h : Lines w A n c L) {a : Addr} : Lines w (some a) 0 (c - n) (L.drop n) := by
  have hx := h.max
  have : L.drop n = [] := by rw [h.len, List.drop_length]
  rw [this]
  exact ⟨rfl, Nat.zero_le _, by omega, (by intro e; cases e), .inl rfl⟩
theorem lines_one {w : World} {g : Nat} {s : ByteArray} (hg : w.heap.size = g) : Lines (w.alloc (.cells #[.string s] 9)) (some ⟨g, 0, none⟩) 1 1 [s] := by
  subst hg
  refine ⟨rfl, Nat.le_refl _, by unfold maxLen; omega, (by intro e; cases e), .inr ⟨_, 0, rfl, by simp, fun i hi => ?_⟩⟩
  obtain rfl : i = 0 := by omega
  rw [cell_new]; simp [lat]
theorem lat_size {L : List ByteArray} {i : Nat} (h : i < L.length) : (lat L i).size ≤ sizeL L := by
  have h1 := sizeL_take h
  have h2 := sizeL_le L (i + 1)
  omega

set_option maxHeartbeats 4000000 in
set_option maxRecDepth 100000 in
theorem join_calls (v v' : Value) (r r' : Reg) (w : World) (h : IsReg w v r) (h' : IsReg w v' r') (hs : sizeL r.2 ≤ 4503599627370496) (hs' : sizeL r'.2 ≤ 4503599627370496) (hn : r.2.length ≤ 268435456) (hn' : r'.2.length ≤ 268435456) :
    Calls Try.prog 12 #[v, v'] w fun e w' => ∃ u, e = .returned u ∧ IsReg w' u (join r r') ∧ Only No w w' := by
  obtain ⟨A, n, c, rfl, hl⟩ := h
  obtain ⟨A', n', c', rfl, hl'⟩ := h'
  obtain ⟨k, L⟩ := r
  obtain ⟨k', L'⟩ := r'
  simp only at hs hs' hn hn' hl hl'
  have hlen := hl.len
  have hlen' := hl'.len
  subst hlen
  subst hlen'
  have H := Lib.hid hl
  have H' := Lib.hid hl'
  clear hl hl'
  simp only
  go_enter Try.func12, Try.ntmps12
  have hb3 : ∀ o1 o2 o3, Only No w (((w.alloc o1).alloc o2).alloc o3) := fun o1 o2 o3 => (((Only.refl _ w).alloc _).alloc _).alloc _
  by_cases e : k ≠ 0 ∨ k' ≠ 0
  · have ej : join (k, L) (k', L') = (1, L ++ L') := by simp only [join]; rw [if_pos e]
    rw [ej]
    have hcase : (k = 0 ∧ (k' != 0) = true) ∨ (k != 0) = true := by
      by_cases h0 : k = 0
      · left
        refine ⟨h0, ?_⟩
        rw [bne_iff_ne]
        rcases e with e | e
        · exact absurd h0 e
        · exact e
      · right
        rw [bne_iff_ne]; exact h0
    rcases hcase with ⟨rfl, h2⟩ | h2
    all_goals (
      go_wp2_with fail
      refine (concat_calls (w.heap.size + 3) 0 2 2 (two A L.length c L A' L'.length c' L') _ (parts_two (by simp) (H.out.only (hb3 _ _ _) (fun _ _ h => h.elim)) (H'.out.only (hb3 _ _ _) (fun _ _ h => h.elim))) (Nat.le_refl _) (by omega) (by rw [flat_two, List.length_append]; omega)).mono ?_
      rintro e1 w1 ⟨u, rfl, hown, hO⟩
      rw [flat_two] at hown
      obtain ⟨A2, c2, rfl, hl2⟩ := hown.lines
      have hf := (hO.block (w.heap.size + 2) (by simp; try omega) (fun h => h)).trans ((Below.heap_alloc _ _ _ (by simp)).trans (alloc_at (by simp) _))
      obtain ⟨f0, f1, f2, f3⟩ := reg_cells hf
      obtain ⟨g0, g1, g2, g3⟩ := store_reg (k := 1) hf hl2
      have hfin := ((hb3 _ _ _).alloc _).trans' hO
      have hsz : w.heap.size ≤ w.heap.size + 2 := by omega
      clear hf
      have HF := Lib.hid (And.intro g0 (And.intro g1 (And.intro hfin (And.intro g2 g3))))
      clear g0 g1 g2 g3 hfin hb3 hO hown hl2
      go_wp2
      obtain ⟨g0, g1, hfin, g2, g3⟩ := HF.out
      rw [List.length_append] at g0 g1 g2 g3
      have hfin2 : Only No w _ := hfin.trans g1 (fun k hk e => by omega)
      exact bodyPost_ret (v := .agg #[.int .i64 1, .slice A2 (L.length + L'.length) c2]) (by simp [results, Try.results12, go_sem, g2, g3]) rfl ⟨_, rfl, ⟨A2, _, c2, rfl, g0⟩, hfin2⟩)
  · obtain ⟨rfl, rfl⟩ : k = 0 ∧ k' = 0 := by
      constructor
      · exact Classical.byContradiction fun h => e (.inl h)
      · exact Classical.byContradiction fun h => e (.inr h)
    by_cases e2 : L.length = 0 ∨ L'.length = 0
    · have ej : join (0, L) (0, L') = (0, L ++ L') := by simp only [join]; rw [if_neg e, if_pos e2]
      rw [ej]
      have hcase : ((L.length : Int) == 0) = true ∨ (((L.length : Int) == 0) = false ∧ ((L'.length : Int) == 0) = true) := by
        rw [beq_eq_false_iff_ne, beq_iff_eq, beq_iff_eq]; omega
      rcases hcase with h2 | ⟨h2, h3⟩
      all_goals (
        go_wp2_with fail
        refine (concat_calls (w.heap.size + 3) 0 2 2 (two A L.length c L A' L'.length c' L') _ (parts_two (by simp) (H.out.only (hb3 _ _ _) (fun _ _ h => h.elim)) (H'.out.only (hb3 _ _ _) (fun _ _ h => h.elim))) (Nat.le_refl _) (by omega) (by rw [flat_two, List.length_append]; omega)).mono ?_
        rintro e1 w1 ⟨u, rfl, hown, hO⟩
        rw [flat_two] at hown
        obtain ⟨A2, c2, rfl, hl2⟩ := hown.lines
        have hf := (hO.block (w.heap.size + 2) (by simp; try omega) (fun h => h)).trans ((Below.heap_alloc _ _ _ (by simp)).trans (alloc_at (by simp) _))
        obtain ⟨f0, f1, f2, f3⟩ := reg_cells hf
        obtain ⟨g0, g1, g2, g3⟩ := store_reg (k := 0) hf hl2
        have hfin := ((hb3 _ _ _).alloc _).trans' hO
        clear hf
        have HF := Lib.hid (And.intro g0 (And.intro g1 (And.intro hfin (And.intro g2 g3))))
        clear g0 g1 g2 g3 hfin hb3 hO hown hl2
        go_wp2
        obtain ⟨g0, g1, hfin, g2, g3⟩ := HF.out
        rw [List.length_append] at g0 g1 g2 g3
        have hfin2 : Only No w _ := hfin.trans g1 (fun k hk e => by omega)
        exact bodyPost_ret (v := .agg #[.int .i64 0, .slice A2 (L.length + L'.length) c2]) (by simp [results, Try.results12, go_sem, g2, g3]) rfl ⟨_, rfl, ⟨A2, _, c2, rfl, g0⟩, hfin2⟩)
    · have ej : join (0, L) (0, L') = (0, L.take (L.length - 1) ++ [lat L (L.length - 1) ++ lat L' 0] ++ L'.drop 1) := by simp only [join]; rw [if_neg e, if_neg e2]
      rw [ej]
      obtain ⟨m, hm⟩ : ∃ m, L.length = m + 1 := ⟨L.length - 1, by omega⟩
      obtain ⟨m', hm'⟩ : ∃ m', L'.length = m' + 1 := ⟨L'.length - 1, by omega⟩
      have hz1 := lat_size (L := L) (i := m) (by omega)
      have hz2 := lat_size (L := L') (i := 0) (by omega)
      have hm1 : L.length - 1 = m := by omega
      rw [hm1]
      obtain ⟨L4, hL4⟩ : ∃ L4, L.take m ++ [lat L m ++ lat L' 0] ++ L'.drop 1 = L4 := ⟨_, rfl⟩
      rw [hL4]
      rw [hm] at H hn
      rw [hm'] at H' hn'
      rw [hm, hm']
      clear hm1 e e2 ej
      obtain ⟨b, off, rfl, hbb, hcell⟩ := H.out.at (show m < m + 1 by omega)
      obtain ⟨b', off', rfl, hbb', hcell'⟩ := H'.out.at (show 0 < m' + 1 by omega)
      have h2 : (((m : Int) + 1) == 0) = false := by rw [beq_eq_false_iff_ne]; omega
      have h3 : (((m' : Int) + 1) == 0) = false := by rw [beq_eq_false_iff_ne]; omega
      go_wp2_with fail
      obtain ⟨W, hW⟩ : ∃ W, ((w.alloc (Obj.cells #[.int .i64 0, .slice (some ⟨b, off, none⟩) (m + 1) c] 24)).alloc (Obj.cells #[.int .i64 0, .slice (some ⟨b', off', none⟩) (m' + 1) c'] 24)).alloc (Obj.cells #[.int .i64 0, .slice none 0 0] 24) = W := ⟨_, rfl⟩
      rw [hW]
      have hs : W.heap.size = w.heap.size + 3 := by rw [← hW]; simp
      have hO : Only No w W := by rw [← hW]; exact hb3 _ _ _
      have c0 : W.cell? ⟨w.heap.size, 1, none⟩ = some (.slice (some ⟨b, off, none⟩) (m + 1) c) := by rw [← hW]; clear hW hs hO; go_simp
      have c1 : W.cell? ⟨w.heap.size + 1, 1, none⟩ = some (.slice (some ⟨b', off', none⟩) (m' + 1) c') := by rw [← hW]; clear hW hs hO c0; go_simp
      have f0 : W.heap[w.heap.size + 2]? = some (.cells #[.int .i64 0, .slice none 0 0] 24 (0, 0)) := by rw [← hW]; exact alloc_at (by simp) _
      replace hcell := (cell_block (hO.block b hbb (fun h => h)) (off + m)).trans hcell
      replace hcell' := (cell_block (hO.block b' hbb' (fun h => h)) (off' + 0)).trans hcell'
      rw [Nat.add_zero] at hcell'
      have HA := Lib.hid (H.out.only hO (fun _ _ h => h.elim))
      have HA' := Lib.hid (H'.out.only hO (fun _ _ h => h.elim))
      clear hW hb3
      have i0 : (0 : Int) ≤ (m : Int) := by omega
      have i1 : (m : Int) < (m : Int) + 1 := by omega
      have i2 : (0 : Int) < (m' : Int) + 1 := by omega
      have i3 : (1 : Int) ≤ (m' : Int) + 1 := by omega
      have icap := H.out.cap
      have icap' := H'.out.cap
      have i4 : (m : Int) ≤ (c : Int) := by omega
      have i5 : (m' : Int) + 1 ≤ (c' : Int) := by omega
      have i6 : ¬ (9223372036854775807 < (lat L m).size + (lat L' 0).size) := by omega
      have i7 : ¬ ((9223372036854775807 : Int) < ((lat L m).size : Int) + ((lat L' 0).size : Int)) := by omega
      have i8 : (lat L m).size + (lat L' 0).size ≤ 9223372036854775807 := by omega
      have hEE : ∀ {w5 : World}, Only No W w5 → c' = 1 → Lines w5 (some ⟨b', off', none⟩) m' (c' - 1) (L'.drop 1) := by
        intro w5 h5 hc1
        have hq := HA'.out.only h5 (fun _ _ h => h.elim)
        have hm0 : m' = 0 := by omega
        subst hm0
        exact lines_drop0 hq
      have hEF : ∀ {w5 : World}, Only No W w5 → ¬ c' = 1 → Lines w5 (some ⟨b', off' + 1, none⟩) m' (c' - 1) (L'.drop 1) := by
        intro w5 h5 hc1
        exact lines_drop (HA'.out.only h5 (fun _ _ h => h.elim)) (by omega)
      by_cases hc1 : c' = 1
      · subst hc1
        obtain rfl : m' = 0 := by omega
        rw [show (0 : Nat) + 1 = 1 from rfl] at c1
        obtain ⟨E, hE0⟩ : ∃ E : Option Addr, some ⟨b', off', none⟩ = E := ⟨_, rfl⟩
        have hE : ∀ {w5 : World}, Only No W w5 → Lines w5 E 0 0 (L'.drop 1) := fun h5 => by rw [← hE0]; exact hEE h5 rfl
        clear hEE hEF
        obtain ⟨P3, hP3⟩ : ∃ P3, three (some ⟨b, off, none⟩, m, c, L.take m) (some ⟨w.heap.size + 3, 0, none⟩, 1, 1, [lat L m ++ lat L' 0]) (E, 0, 0, L'.drop 1) = P3 := ⟨_, rfl⟩
        have hflat : flat P3 3 = L4 := by rw [← hP3, ← hL4]; exact flat_three _ _ _
        have hOs := (Only.refl No W).alloc (.cells #[.string (lat L m ++ lat L' 0)] 9)
        have hp1 : Lines (W.alloc (.cells #[.string (lat L m ++ lat L' 0)] 9)) (some ⟨b, off, none⟩) m c (L.take m) := lines_take (HA.out.only hOs (fun _ _ h => h.elim)) (by omega)
        have hp2 : Lines (W.alloc (.cells #[.string (lat L m ++ lat L' 0)] 9)) (some ⟨w.heap.size + 3, 0, none⟩) 1 1 [lat L m ++ lat L' 0] := lines_one hs
        have hp3 : Lines (W.alloc (.cells #[.string (lat L m ++ lat L' 0)] 9)) E 0 0 (L'.drop 1) := by
          exact hE hOs
        have hP0 := parts_three (w := W.alloc (.cells #[.string (lat L m ++ lat L' 0)] 9)) (some ⟨b, off, none⟩, m, c, L.take m) (some ⟨w.heap.size + 3, 0, none⟩, 1, 1, [lat L m ++ lat L' 0]) (E, 0, 0, L'.drop 1) (g := w.heap.size + 4) (by simp [hs]) hp1 hp2 hp3
        rw [hP3] at hP0
        simp only at hP0
        have HP := Lib.hid (Parts.mk (w := ((W.alloc (Obj.cells #[.string (lat L m ++ lat L' 0)] 9)).alloc (Obj.cells #[.slice (some ⟨b, off, none⟩) m c, .slice (some ⟨w.heap.size + 3, 0, none⟩) 1 1, .slice E 0 0] 22)).drew) hP0.lt hP0.cell (fun i hi => (hP0.lines i hi).only ((Only.refl No _).drew) (fun _ _ h => h.elim)))
        have hOW := Lib.hid (((hOs.alloc (Obj.cells #[.slice (some ⟨b, off, none⟩) m c, .slice (some ⟨w.heap.size + 3, 0, none⟩) 1 1, .slice E 0 0] 22)).drew))
        have hlen3 : (flat P3 3).length ≤ 1099511627776 := by rw [hflat, ← hL4]; simp; omega
        clear hp1 hp2 hp3 hP0 hOs hP3 hL4
        have Hflat := Lib.hid hflat
        clear hflat
        subst hE0
        have b1 : b < W.heap.size := by omega
        have b2 : b' < W.heap.size := by omega
        go_region_held3 (fun w' => w'.cell? ⟨w.heap.size, 1, none⟩ = some (.slice (some ⟨b, off, none⟩) (m + 1) c) ∧ w'.cell? ⟨w.heap.size + 1, 1, none⟩ = some (.slice (some ⟨b', off', none⟩) 1 1) ∧ w'.cell? ⟨b, off + m, none⟩ = some (.string (lat L m)) ∧ w'.cell? ⟨b', off', none⟩ = some (.string (lat L' 0))) (first | go_keep | exact ⟨by assumption, by assumption, by assumption, by assumption⟩)
          (first | (go_at_call 29; refine (concat_calls (w.heap.size + 4) 0 3 3 P3 _ HP.out (by omega) (by omega) hlen3).mono ?_; rintro e1 w1 ⟨u, rfl, hown, hO'⟩; rw [Hflat.out] at hown; obtain ⟨A2, c2, rfl, hl2⟩ := hown.lines; have hOW1 := hOW.out.trans' hO'; have k0 := (cell_block (hOW1.block (w.heap.size) (by omega) (fun h => h)) 1).trans c0; have k1 := (cell_block (hOW1.block (w.heap.size + 1) (by omega) (fun h => h)) 1).trans c1; have k2 := (cell_block (hOW1.block b b1 (fun h => h)) (off + m)).trans hcell; have k3 := (cell_block (hOW1.block b' b2 (fun h => h)) off').trans hcell'; have hf := (hOW1.block (w.heap.size + 2) (by omega) (fun h => h)).trans f0))
        obtain ⟨f0', f1', f2', f3'⟩ := reg_cells hf
        obtain ⟨g0, g1, g2, g3⟩ := store_reg (k := 0) hf hl2
        have hfin := hO.trans' hOW1
        have HFF := Lib.hid (And.intro g0 (And.intro g1 (And.intro hfin (And.intro g2 g3))))
        clear g0 g1 g2 g3 hfin hf hO hown hl2 hE HP hOW hO' hOW1 HA HA' H H' k0 k1 k2 k3
        go_wp2
        obtain ⟨g0, g1, hfin, g2, g3⟩ := HFF.out
        have hfin2 : Only No w _ := hfin.trans g1 (fun k hk e => by omega)
        exact bodyPost_ret (v := .agg #[.int .i64 0, .slice A2 L4.length c2]) (by simp [results, Try.results12, go_sem, g2, g3]) rfl ⟨_, rfl, ⟨A2, _, c2, rfl, g0⟩, hfin2⟩
      obtain ⟨E, hE0⟩ : ∃ E : Option Addr, some ⟨b', off' + 1, none⟩ = E := ⟨_, rfl⟩
      have hE : ∀ {w5 : World}, Only No W w5 → Lines w5 E m' (c' - 1) (L'.drop 1) := fun h5 => by rw [← hE0]; exact hEF h5 hc1
      clear hEE hEF
      obtain ⟨P3, hP3⟩ : ∃ P3, three (some ⟨b, off, none⟩, m, c, L.take m) (some ⟨w.heap.size + 3, 0, none⟩, 1, 1, [lat L m ++ lat L' 0]) (E, m', c' - 1, L'.drop 1) = P3 := ⟨_, rfl⟩
      have hflat : flat P3 3 = L4 := by rw [← hP3, ← hL4]; exact flat_three _ _ _
      have hOs := (Only.refl No W).alloc (.cells #[.string (lat L m ++ lat L' 0)] 9)
      have hp1 : Lines (W.alloc (.cells #[.string (lat L m ++ lat L' 0)] 9)) (some ⟨b, off, none⟩) m c (L.take m) := lines_take (HA.out.only hOs (fun _ _ h => h.elim)) (by omega)
      have hp2 : Lines (W.alloc (.cells #[.string (lat L m ++ lat L' 0)] 9)) (some ⟨w.heap.size + 3, 0, none⟩) 1 1 [lat L m ++ lat L' 0] := lines_one hs
      have hp3 : Lines (W.alloc (.cells #[.string (lat L m ++ lat L' 0)] 9)) E m' (c' - 1) (L'.drop 1) := by
        exact hE hOs
      have hP0 := parts_three (w := W.alloc (.cells #[.string (lat L m ++ lat L' 0)] 9)) (some ⟨b, off, none⟩, m, c, L.take m) (some ⟨w.heap.size + 3, 0, none⟩, 1, 1, [lat L m ++ lat L' 0]) (E, m', c' - 1, L'.drop 1) (g := w.heap.size + 4) (by simp [hs]) hp1 hp2 hp3
      rw [hP3] at hP0
      simp only at hP0
      have HP := Lib.hid (Parts.mk (w := ((W.alloc (Obj.cells #[.string (lat L m ++ lat L' 0)] 9)).alloc (Obj.cells #[.slice (some ⟨b, off, none⟩) m c, .slice (some ⟨w.heap.size + 3, 0, none⟩) 1 1, .slice E m' (c' - 1)] 22)).drew) hP0.lt hP0.cell (fun i hi => (hP0.lines i hi).only ((Only.refl No _).drew) (fun _ _ h => h.elim)))
      have hOW := Lib.hid (((hOs.alloc (Obj.cells #[.slice (some ⟨b, off, none⟩) m c, .slice (some ⟨w.heap.size + 3, 0, none⟩) 1 1, .slice E m' (c' - 1)] 22)).drew))
      have hlen3 : (flat P3 3).length ≤ 1099511627776 := by rw [hflat, ← hL4]; simp; omega
      clear hp1 hp2 hp3 hP0 hOs hP3 hL4
      have Hflat := Lib.hid hflat
      clear hflat
      subst hE0
      have b1 : b < W.heap.size := by omega
      have b2 : b' < W.heap.size := by omega
      go_region_held3 (fun w' => w'.cell? ⟨w.heap.size, 1, none⟩ = some (.slice (some ⟨b, off, none⟩) (m + 1) c) ∧ w'.cell? ⟨w.heap.size + 1, 1, none⟩ = some (.slice (some ⟨b', off', none⟩) (m' + 1) c') ∧ w'.cell? ⟨b, off + m, none⟩ = some (.string (lat L m)) ∧ w'.cell? ⟨b', off', none⟩ = some (.string (lat L' 0))) (first | go_keep | exact ⟨by assumption, by assumption, by assumption, by assumption⟩)
        (first | (go_at_call 29; refine (concat_calls (w.heap.size + 4) 0 3 3 P3 _ HP.out (by omega) (by omega) hlen3).mono ?_; rintro e1 w1 ⟨u, rfl, hown, hO'⟩; rw [Hflat.out] at hown; obtain ⟨A2, c2, rfl, hl2⟩ := hown.lines; have hOW1 := hOW.out.trans' hO'; have k0 := (cell_block (hOW1.block (w.heap.size) (by omega) (fun h => h)) 1).trans c0; have k1 := (cell_block (hOW1.block (w.heap.size + 1) (by omega) (fun h => h)) 1).trans c1; have k2 := (cell_block (hOW1.block b b1 (fun h => h)) (off + m)).trans hcell; have k3 := (cell_block (hOW1.block b' b2 (fun h => h)) off').trans hcell'; have hf := (hOW1.block (w.heap.size + 2) (by omega) (fun h => h)).trans f0))
      obtain ⟨f0', f1', f2', f3'⟩ := reg_cells hf
      obtain ⟨g0, g1, g2, g3⟩ := store_reg (k := 0) hf hl2
      have hfin := hO.trans' hOW1
      have HFF := Lib.hid (And.intro g0 (And.intro g1 (And.intro hfin (And.intro g2 g3))))
      clear g0 g1 g2 g3 hfin hf hO hown hl2 hE HP hOW hO' hOW1 HA HA' H H' k0 k1 k2 k3
      go_wp2
      obtain ⟨g0, g1, hfin, g2, g3⟩ := HFF.out
      have hfin2 : Only No w _ := hfin.trans g1 (fun k hk e => by omega)
      exact bodyPost_ret (v := .agg #[.int .i64 0, .slice A2 L4.length c2]) (by simp [results, Try.results12, go_sem, g2, g3]) rfl ⟨_, rfl, ⟨A2, _, c2, rfl, g0⟩, hfin2⟩
end Go.Proofs.Ytgdlplkeafeblaa.Rg
