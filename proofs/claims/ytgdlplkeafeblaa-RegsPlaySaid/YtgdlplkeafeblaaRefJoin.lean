/- The document's Join. -/
import Derived.Test.YtgdlplkeafeblaaJoin
namespace Go.Proofs.Ytgdlplkeafeblaa.Rg
open Go.RowKit Go.Proofs.Ytgdlplkeafeblaa.MapRaw Go.Proofs.Ytgdlplkeafeblaa.Frm Go.Proofs.Ytgdlplkeafeblaa.Lns
set_option linter.unusedVariables false
set_option linter.unusedSimpArgs false
attribute [local go_sem ↓] Go.wp_at_zero Go.wp_at_succ

theorem keep_two {w2 : World} {g a o : Nat} {u v : Value} {x : Option Value} (h : w2.cell? ⟨a, o, none⟩ = x) (hne : a ≠ g) : ((w2.setCell ⟨g, 0, none⟩ u).setCell ⟨g, 1, none⟩ v).cell? ⟨a, o, none⟩ = x :=
  (cell_block ((Below.heap_setCell _ _ _ _ hne).trans (Below.heap_setCell _ _ _ _ hne)) o).trans h

set_option maxHeartbeats 4000000 in
set_option maxRecDepth 100000 in
theorem rjoin_calls (v v' : Value) (r r' : Reg) (w : World) (h : IsReg w v r) (h' : IsReg w v' r') (hs : sizeL r.2 ≤ 4503599627370496) (hs' : sizeL r'.2 ≤ 4503599627370496) (hn : r.2.length ≤ 268435456) (hn' : r'.2.length ≤ 268435456) :
    Calls Try.prog 14 #[v, v'] w fun e w' => ∃ u, e = .returned u ∧ IsReg w' u (join r r') ∧ Only No w w' := by
  obtain ⟨A, n, c, rfl, hl⟩ := h
  obtain ⟨A', n', c', rfl, hl'⟩ := h'
  obtain ⟨k, L⟩ := r
  obtain ⟨k', L'⟩ := r'
  simp only at hs hs' hn hn' hl hl'
  have hlen := hl.len
  have hlen' := hl'.len
  subst hlen
  subst hlen'
  have H := Lib.hid hl
  have H' := Lib.hid hl'
  clear hl hl'
  simp only
  go_enter Try.func14, Try.ntmps14
  obtain ⟨W, hW⟩ : ∃ W, ((w.alloc (Obj.cells #[.int .i64 k, .slice A L.length c] 24)).alloc (Obj.cells #[.int .i64 k', .slice A' L'.length c'] 24)).alloc (Obj.cells #[.int .i64 0, .slice none 0 0] 24) = W := ⟨_, rfl⟩
  have hO : Only No w W := by rw [← hW]; exact (((Only.refl _ w).alloc _).alloc _).alloc _
  have hWs : W.heap.size = w.heap.size + 3 := by rw [← hW]; simp
  have f0 : W.heap[w.heap.size]? = some (.cells #[.int .i64 k, .slice A L.length c] 24 (0, 0)) := by
    rw [← hW]; exact (Below.heap_alloc _ _ _ (by simp; try omega)).trans ((Below.heap_alloc _ _ _ (by simp; try omega)).trans (alloc_new w _))
  have f1 : W.heap[w.heap.size + 1]? = some (.cells #[.int .i64 k', .slice A' L'.length c'] 24 (0, 0)) := by
    rw [← hW]; exact (Below.heap_alloc _ _ _ (by simp)).trans (alloc_at (by simp) _)
  have f2 : W.heap[w.heap.size + 2]? = some (.cells #[.int .i64 0, .slice none 0 0] 24 (0, 0)) := by
    rw [← hW]; exact alloc_at (by simp) _
  obtain ⟨x0, x1, _, _⟩ := reg_cells f0
  obtain ⟨y0, y1, _, _⟩ := reg_cells f1
  obtain ⟨z0, z1, z2, z3⟩ := reg_cells f2
  have HA := Lib.hid (H.out.only hO (fun _ _ h => h.elim))
  have HA' := Lib.hid (H'.out.only hO (fun _ _ h => h.elim))
  have HO := Lib.hid hO
  have HF2 := Lib.hid f2
  have HW := Lib.hid hWs
  clear f0 f1 f2 hO hWs
  by_cases e : k ≠ 0 ∨ k' ≠ 0
  · have ej : join (k, L) (k', L') = (1, L ++ L') := by simp only [join]; rw [if_pos e]
    rw [ej]
    have hcase : (k = 0 ∧ (k' != 0) = true) ∨ (k != 0) = true := by
      by_cases h0 : k = 0
      · left
        refine ⟨h0, ?_⟩
        rw [bne_iff_ne]
        rcases e with e | e
        · exact absurd h0 e
        · exact e
      · right
        rw [bne_iff_ne]; exact h0
    rcases hcase with ⟨rfl, h2⟩ | h2
    all_goals (
      go_wp2_with fail
      go_region_held3 (fun w' => w'.cell? ⟨w.heap.size, 1, none⟩ = some (.slice A L.length c) ∧ w'.cell? ⟨w.heap.size + 1, 1, none⟩ = some (.slice A' L'.length c')) (first | exact ⟨by assumption, by assumption⟩ | exact ⟨keep_two k0 (by omega), keep_two k1 (by omega)⟩ | go_keep)
        (first | (refine step_app rfl _ _ (by rfl) W.heap.size _ L L' A' L'.length c' (by rfl) (by rfl) hown1 (HA'.out.only hO1 (fun _ _ h => h.elim)) (by omega) hO1.size ?_; intro v2 w2 hown2 hg2; have hO2 : Only No W w2 := hO1.grown hg2 (fun b e => .inl (hown1.ge e)); (obtain ⟨A2, c2, rfl, hl2⟩ := hown2.lines); have k0 := (cell_block (hO2.block (w.heap.size) (by have := HW.out; omega) (fun h => h)) 1).trans x1; have k1 := (cell_block (hO2.block (w.heap.size + 1) (by have := HW.out; omega) (fun h => h)) 1).trans y1; have hf2 := (hO2.block (w.heap.size + 2) (by have := HW.out; omega) (fun h => h)).trans HF2.out; (obtain ⟨z0, z1, z2, z3⟩ := reg_cells hf2))
               | (refine step_app rfl _ _ (by rfl) W.heap.size _ [] L A L.length c (by rfl) (by rfl) (own_nil _ _) (HA.out.only (Only.refl No _).drew (fun _ _ h => h.elim)) (by simp; omega) (Nat.le_refl _) ?_; intro v1 w1 hown1 hg1; have hown1 : Lns.Own w1 W.heap.size v1 L := hown1; have hO1 : Only No W w1 := ((Only.refl No W).drew).grown hg1 (fun b e => by cases e); have k0 := (cell_block (hO1.block (w.heap.size) (by have := HW.out; omega) (fun h => h)) 1).trans x1; have k1 := (cell_block (hO1.block (w.heap.size + 1) (by have := HW.out; omega) (fun h => h)) 1).trans y1))
      have HS := Lib.hid (store_reg (k := 1) hf2 hl2)
      clear z0 z1 z2 z3 k0 k1 hf2
      go_wp2
      obtain ⟨g0, g1, g2, g3⟩ := HS.out
      rw [List.length_append] at g0 g1 g2 g3
      have hfin2 : Only No w _ := (HO.out.trans' hO2).trans g1 (fun k hk e => by omega)
      exact bodyPost_ret (v := .agg #[.int .i64 1, .slice A2 (L.length + L'.length) c2]) (by simp [results, Try.results14, go_sem, g2, g3]) rfl ⟨_, rfl, ⟨A2, _, c2, rfl, g0⟩, hfin2⟩)
  · obtain ⟨rfl, rfl⟩ : k = 0 ∧ k' = 0 := by
      constructor
      · exact Classical.byContradiction fun h => e (.inl h)
      · exact Classical.byContradiction fun h => e (.inr h)
    by_cases e2 : L.length = 0 ∨ L'.length = 0
    · have ej : join (0, L) (0, L') = (0, L ++ L') := by simp only [join]; rw [if_neg e, if_pos e2]
      rw [ej]
      have hcase : ((L.length : Int) == 0) = true ∨ (((L.length : Int) == 0) = false ∧ ((L'.length : Int) == 0) = true) := by
        rw [beq_eq_false_iff_ne, beq_iff_eq, beq_iff_eq]; omega
      rcases hcase with h2 | ⟨h2, h3⟩
      all_goals (
        go_wp2_with fail
        go_region_held3 (fun w' => w'.cell? ⟨w.heap.size, 1, none⟩ = some (.slice A L.length c) ∧ w'.cell? ⟨w.heap.size + 1, 1, none⟩ = some (.slice A' L'.length c')) (first | exact ⟨by assumption, by assumption⟩ | exact ⟨keep_two k0 (by omega), keep_two k1 (by omega)⟩ | go_keep)
          (first | (refine step_app rfl _ _ (by rfl) W.heap.size _ L L' A' L'.length c' (by rfl) (by rfl) hown1 (HA'.out.only hO1 (fun _ _ h => h.elim)) (by omega) hO1.size ?_; intro v2 w2 hown2 hg2; have hO2 : Only No W w2 := hO1.grown hg2 (fun b e => .inl (hown1.ge e)); (obtain ⟨A2, c2, rfl, hl2⟩ := hown2.lines); have k0 := (cell_block (hO2.block (w.heap.size) (by have := HW.out; omega) (fun h => h)) 1).trans x1; have k1 := (cell_block (hO2.block (w.heap.size + 1) (by have := HW.out; omega) (fun h => h)) 1).trans y1; have hf2 := (hO2.block (w.heap.size + 2) (by have := HW.out; omega) (fun h => h)).trans HF2.out; (obtain ⟨z0, z1, z2, z3⟩ := reg_cells hf2))
                 | (refine step_app rfl _ _ (by rfl) W.heap.size _ [] L A L.length c (by rfl) (by rfl) (own_nil _ _) (HA.out.only (Only.refl No _).drew (fun _ _ h => h.elim)) (by simp; omega) (Nat.le_refl _) ?_; intro v1 w1 hown1 hg1; have hown1 : Lns.Own w1 W.heap.size v1 L := hown1; have hO1 : Only No W w1 := ((Only.refl No W).drew).grown hg1 (fun b e => by cases e); have k0 := (cell_block (hO1.block (w.heap.size) (by have := HW.out; omega) (fun h => h)) 1).trans x1; have k1 := (cell_block (hO1.block (w.heap.size + 1) (by have := HW.out; omega) (fun h => h)) 1).trans y1))
        have HS := Lib.hid (store_reg (k := 0) hf2 hl2)
        clear z0 z1 z2 z3 k0 k1 hf2
        go_wp2
        obtain ⟨g0, g1, g2, g3⟩ := HS.out
        rw [List.length_append] at g0 g1 g2 g3
        have hfin2 : Only No w _ := (HO.out.trans' hO2).trans g1 (fun k hk e => by omega)
        exact bodyPost_ret (v := .agg #[.int .i64 0, .slice A2 (L.length + L'.length) c2]) (by simp [results, Try.results14, go_sem, g2, g3]) rfl ⟨_, rfl, ⟨A2, _, c2, rfl, g0⟩, hfin2⟩)
  
    · have ej : join (0, L) (0, L') = (0, L.take (L.length - 1) ++ [lat L (L.length - 1) ++ lat L' 0] ++ L'.drop 1) := by simp only [join]; rw [if_neg e, if_neg e2]
      rw [ej]
      obtain ⟨m, hm⟩ : ∃ m, L.length = m + 1 := ⟨L.length - 1, by omega⟩
      obtain ⟨m', hm'⟩ : ∃ m', L'.length = m' + 1 := ⟨L'.length - 1, by omega⟩
      have hz1 := lat_size (L := L) (i := m) (by omega)
      have hz2 := lat_size (L := L') (i := 0) (by omega)
      have hm1 : L.length - 1 = m := by omega
      rw [hm1]
      rw [hm] at HA hn x1
      rw [hm'] at HA' hn' y1
      rw [hm] at hW
      rw [hm'] at hW
      rw [hm, hm']
      clear hm1 e e2 ej
      obtain ⟨b, off, rfl, hbb, hcell⟩ := HA.out.at (show m < m + 1 by omega)
      obtain ⟨b', off', rfl, hbb', hcell'⟩ := HA'.out.at (show 0 < m' + 1 by omega)
      rw [Nat.add_zero] at hcell'
      have h2 : (((m : Int) + 1) == 0) = false := by rw [beq_eq_false_iff_ne]; omega
      have h3 : (((m' : Int) + 1) == 0) = false := by rw [beq_eq_false_iff_ne]; omega
      have i0 : (0 : Int) ≤ (m : Int) := by omega
      have i1 : (m : Int) < (m : Int) + 1 := by omega
      have i2 : (0 : Int) < (m' : Int) + 1 := by omega
      have i3 : (1 : Int) ≤ (m' : Int) + 1 := by omega
      have icap := HA.out.cap
      have icap' := HA'.out.cap
      have i4 : (m : Int) ≤ (c : Int) := by omega
      have i5 : (m' : Int) + 1 ≤ (c' : Int) := by omega
      have i6 : ¬ (9223372036854775807 < (lat L m).size + (lat L' 0).size) := by omega
      have i7 : ¬ ((9223372036854775807 : Int) < ((lat L m).size : Int) + ((lat L' 0).size : Int)) := by omega
      have i8 : (lat L m).size + (lat L' 0).size ≤ 9223372036854775807 := by omega
      have hLm : (L.take m).length = m := by rw [List.length_take]; omega
      obtain ⟨X, hX⟩ : ∃ X, L.take m = X := ⟨_, rfl⟩
      have hl0 := lines_take HA.out (show m ≤ m + 1 by omega)
      rw [hX] at hLm hl0
      rw [hX]
      obtain ⟨L4, hL4⟩ : ∃ L4, X ++ [lat L m ++ lat L' 0] ++ L'.drop 1 = L4 := ⟨_, rfl⟩
      rw [hL4]
      have HL4 := Lib.hid hL4
      clear hL4
      have HX := Lib.hid hLm
      have HL0 := Lib.hid hl0
      clear hX hLm hl0
      have b1 : b < W.heap.size := hbb
      have b2 : b' < W.heap.size := hbb'
      have hc1 : W.heap.size = w.heap.size + 3 := HW.out
      have HC1 := Lib.hid hc1
      clear hc1
      go_wp2_with fail
      go_region_held3 (fun w' => w'.cell? ⟨w.heap.size, 1, none⟩ = some (.slice (some ⟨b, off, none⟩) (m + 1) c) ∧ w'.cell? ⟨w.heap.size + 1, 1, none⟩ = some (.slice (some ⟨b', off', none⟩) (m' + 1) c') ∧ w'.cell? ⟨b, off + m, none⟩ = some (.string (lat L m)) ∧ w'.cell? ⟨b', off', none⟩ = some (.string (lat L' 0))) (first | exact ⟨by assumption, by assumption, by assumption, by assumption⟩ | go_keep)
        (first | (refine step_app rfl _ _ (by rfl) W.heap.size _ X [lat L m ++ lat L' 0] (some ⟨W.heap.size, 0, none⟩) 1 1 (by rfl) (by rfl) hown1 hlsB (by have := HX.out; simp; omega) hO1.size ?_; intro v2 w2 hown2 hg2; have hO2 : Only No W w2 := hO1.grown hg2 (fun b e => .inl (hown1.ge e)); have k0 := (cell_block (hO2.block (w.heap.size) (by have := HC1.out; omega) (fun h => h)) 1).trans x1; have k1 := (cell_block (hO2.block (w.heap.size + 1) (by have := HC1.out; omega) (fun h => h)) 1).trans y1; have k2 := (cell_block (hO2.block b b1 (fun h => h)) (off + m)).trans hcell; have k3 := (cell_block (hO2.block b' b2 (fun h => h)) off').trans hcell')
               | (refine step_app rfl _ _ (by rfl) W.heap.size _ X [lat L m ++ lat L' 0] _ 1 1 (by rfl) (by rfl) (hown1.only ((Only.refl No _).alloc _) (fun _ _ h => h.elim)) (lines_one rfl) (by have := HX.out; simp; omega) (Nat.le_trans hO1.size (by simp)) ?_; intro v2 w2 hown2 hg2; have hO2 : Only No W w2 := (hO1.alloc _).grown hg2 (fun b e => .inl (hown1.ge e)); have k0 := (cell_block (hO2.block (w.heap.size) (by have := HC1.out; omega) (fun h => h)) 1).trans x1; have k1 := (cell_block (hO2.block (w.heap.size + 1) (by have := HC1.out; omega) (fun h => h)) 1).trans y1; have k2 := (cell_block (hO2.block b b1 (fun h => h)) (off + m)).trans hcell; have k3 := (cell_block (hO2.block b' b2 (fun h => h)) off').trans hcell')
               | (refine step_app rfl _ _ (by rfl) W.heap.size _ [] X (some ⟨b, off, none⟩) m c (by rfl) (by rfl) (own_nil _ _) (HL0.out.only (Only.refl No _).drew (fun _ _ h => h.elim)) (by simp; omega) (Nat.le_refl _) ?_; intro v1 w1 hown1 hg1; have hown1 : Lns.Own w1 W.heap.size v1 X := hown1; have hO1 : Only No W w1 := ((Only.refl No W).drew).grown hg1 (fun b e => by cases e); have k0 := (cell_block (hO1.block (w.heap.size) (by have := HC1.out; omega) (fun h => h)) 1).trans x1; have k1 := (cell_block (hO1.block (w.heap.size + 1) (by have := HC1.out; omega) (fun h => h)) 1).trans y1; have k2 := (cell_block (hO1.block b b1 (fun h => h)) (off + m)).trans hcell; have k3 := (cell_block (hO1.block b' b2 (fun h => h)) off').trans hcell')
               | (refine step_app rfl _ _ (by rfl) W.heap.size _ [] X (some ⟨b, off, none⟩) m c (by rfl) (by rfl) (own_nil _ _) (HL0.out.only (((Only.refl No W).drew).alloc (.cells #[.string (lat L m ++ lat L' 0)] 9)) (fun _ _ h => h.elim)) (by have := HX.out; simp; omega) (by simp) ?_; intro v1 w1 hown1 hg1; have hown1 : Lns.Own w1 W.heap.size v1 X := hown1; have hO1 : Only No W w1 := (((Only.refl No W).drew).alloc (.cells #[.string (lat L m ++ lat L' 0)] 9)).grown hg1 (fun b e => by cases e); have hlsB : Lines w1 (some ⟨W.heap.size, 0, none⟩) 1 1 [lat L m ++ lat L' 0] := (lines_one (w := W.drew) rfl).only ((Only.refl No _).grown hg1 (fun b e => by cases e)) (fun _ _ h => h.elim); have k0 := (cell_block (hO1.block (w.heap.size) (by have := HC1.out; omega) (fun h => h)) 1).trans x1; have k1 := (cell_block (hO1.block (w.heap.size + 1) (by have := HC1.out; omega) (fun h => h)) 1).trans y1; have k2 := (cell_block (hO1.block b b1 (fun h => h)) (off + m)).trans hcell; have k3 := (cell_block (hO1.block b' b2 (fun h => h)) off').trans hcell'))
      all_goals (
        have hf2 := (hO2.block (w.heap.size + 2) (by have := HC1.out; omega) (fun h => h)).trans HF2.out
        have HO2 := Lib.hid hO2
        have HN2 := Lib.hid hown2
        have HFF := Lib.hid hf2
        clear hO2 hown2 hf2 hO1 hown1 hg1 hg2 k0 k2 k3 x0 x1 y0 y1 hcell hcell' hW
        by_cases hc' : c' = 1
        · subst hc'
          obtain rfl : m' = 0 := by omega
          have hE : Lines w2 (some ⟨b', off', none⟩) 0 0 (L'.drop 1) := lines_drop0 (HA'.out.only HO2.out (fun _ _ h => h.elim))
          have HE := Lib.hid hE
          clear hE
          have hsz2 := HO2.out.size
          go_wp2_with (at_builtin; refine wpList_app rfl _ _ rfl W.heap.size _ (X ++ [lat L m ++ lat L' 0]) (L'.drop 1) (some ⟨b', off', none⟩) 0 0 rfl rfl HN2.out HE.out (by have := HX.out; simp; omega) hsz2 ?_; intro v3 w3 hown3 hg3; rw [HL4.out] at hown3; (obtain ⟨A3, c3, rfl, hl3⟩ := hown3.lines); have hO3 : Only No W w3 := HO2.out.grown hg3 (fun b e => .inl (HN2.out.ge e)); have hf3 := (hO3.block (w.heap.size + 2) (by have := HC1.out; omega) (fun h => h)).trans HF2.out; (obtain ⟨z0, z1, z2, z3⟩ := reg_cells hf3); have HS := Lib.hid (store_reg (k := 0) hf3 hl3))
          obtain ⟨g0, g1, g2, g3⟩ := HS.out
          have hfin2 : Only No w _ := (HO.out.trans' hO3).trans g1 (fun k hk e => by omega)
          exact bodyPost_ret (v := .agg #[.int .i64 0, .slice A3 L4.length c3]) (by simp [results, Try.results14, go_sem, g2, g3]) rfl ⟨_, rfl, ⟨A3, _, c3, rfl, g0⟩, hfin2⟩
        · have hE : Lines w2 (some ⟨b', off' + 1, none⟩) m' (c' - 1) (L'.drop 1) := lines_drop (HA'.out.only HO2.out (fun _ _ h => h.elim)) (by omega)
          have HE := Lib.hid hE
          have hEl := hE.len
          clear hE
          have hsz2 := HO2.out.size
          have HEl := Lib.hid hEl
          clear hEl
          go_wp2_with (at_builtin; refine wpList_app rfl _ _ rfl W.heap.size _ (X ++ [lat L m ++ lat L' 0]) (L'.drop 1) (some ⟨b', off' + 1, none⟩) m' (c' - 1) rfl rfl HN2.out HE.out (by have := HX.out; simp; omega) hsz2 ?_; intro v3 w3 hown3 hg3; rw [HL4.out] at hown3; (obtain ⟨A3, c3, rfl, hl3⟩ := hown3.lines); have hO3 : Only No W w3 := HO2.out.grown hg3 (fun b e => .inl (HN2.out.ge e)); have hf3 := (hO3.block (w.heap.size + 2) (by have := HC1.out; omega) (fun h => h)).trans HF2.out; (obtain ⟨z0, z1, z2, z3⟩ := reg_cells hf3); have HS := Lib.hid (store_reg (k := 0) hf3 hl3))
          obtain ⟨g0, g1, g2, g3⟩ := HS.out
          have hfin2 : Only No w _ := (HO.out.trans' hO3).trans g1 (fun k hk e => by omega)
          exact bodyPost_ret (v := .agg #[.int .i64 0, .slice A3 L4.length c3]) (by simp [results, Try.results14, go_sem, g2, g3]) rfl ⟨_, rfl, ⟨A3, _, c3, rfl, g0⟩, hfin2⟩)
end Go.Proofs.Ytgdlplkeafeblaa.Rg
