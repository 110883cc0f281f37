/- The document's registers: Put, Yank, Cut, walked. -/
import Derived.Test.YtgdlplkeafeblaaRefSt
namespace Go.Proofs.Ytgdlplkeafeblaa.Rf
open Go.RowKit Go.Proofs.Ytgdlplkeafeblaa.MapRaw Go.Proofs.Ytgdlplkeafeblaa.Frm Go.Proofs.Ytgdlplkeafeblaa.Lns Go.Proofs.Ytgdlplkeafeblaa.Rg Go.Proofs.Ytgdlplkeafeblaa.Keys
set_option linter.unusedVariables false
set_option linter.unusedSimpArgs false
attribute [local go_sem ↓] Go.wp_at_zero Go.wp_at_succ

theorem store_heap {w : World} {g : Nat} {a b x y : Value} {t : TypeId} (h : w.heap[g]? = some (.cells #[a, b] t (0, 0))) : ((w.setCell ⟨g, 0, none⟩ x).setCell ⟨g, 1, none⟩ y).heap[g]? = some (.cells #[x, y] t (0, 0)) := by
  simp [World.setCell, Array.getElem?_modify, h]

section
variable {w0 : World} {base P : Nat} {f : Nat → Option Reg} {fs : List Fact}
set_option maxHeartbeats 4000000 in
set_option maxRecDepth 100000 in
theorem rput_st (n : Nat) (r : Reg) (w : World) {A : Option Addr} {m c : Nat} (h : RSt w0 w base P f fs) (hL : Lines w A m c r.2) (hlt : n < 256) (hsz : sizeL r.2 ≤ 268435456) (hf : Bd f) :
    Calls Try.prog 24 #[.pointer (some ⟨P, 0, none⟩), .int .u8 (n : Int), .agg #[.int .i64 r.1, .slice A m c]] w fun e w' => e = .returned (.int .i64 (putE f n r : Nat)) ∧ RSt w0 w' base P (putF f n r) fs := by
  have hO : Only No w (w.alloc (.cells #[.int .i64 r.1, .slice A m c] 24)) := (Only.refl _ _).alloc _
  have h1 := (h.alloc #[.int .i64 r.1, .slice A m c] 24).addl (hL.only hO (fun _ _ h => h.elim))
  have hw0 : w0.heap.size ≤ w.heap.size := h.only.size
  have HOLD := Lib.hid (show ∀ b ds t', Fact.cells b ds t' ∈ fs → b < w.heap.size from fun b ds t' hx => heap_lt (h.fs _ hx).1)
  have hln := length_le_sizeL r.2
  obtain ⟨W, hW⟩ : ∃ W, w.alloc (.cells #[.int .i64 r.1, .slice A m c] 24) = W := ⟨_, rfl⟩
  rw [hW] at h1
  have hfp : W.heap[w.heap.size]? = some (.cells #[.int .i64 r.1, .slice A m c] 24 (0, 0)) := h1.i1
  obtain ⟨x0, x1, x2, x3⟩ := reg_cells hfp
  have H1 := Lib.hid h1
  clear h hL hO h1 hfp
  by_cases hcap : isCap n = true
  · have hlet : isLetter n = true := by unfold isLetter; rw [hcap, Bool.or_true]
    have hkl : keyL n = n + 32 := by unfold keyL; rw [if_pos hcap]
    have HCAP := Lib.hid hcap
    simp [isCap] at hcap
    obtain ⟨hc1, hc2⟩ := hcap
    have hko : Rg.keyOf n = n + 32 := by unfold Rg.keyOf; rw [if_neg (by omega), if_pos ⟨hc1, hc2⟩]
    have g1 : (65 : Int) ≤ (n : Int) := by omega
    have g2 : (n : Int) ≤ 90 := by omega
    have HC := Lib.hid (And.intro hlet (And.intro hkl hko))
    clear hlet hkl hko
    have hlt2 : n + 32 < 256 := by omega
    go_enter Try.func24, Try.ntmps24
    go_wp2_with fail
    refine (rget_st n _ H1.out hlt).mono ?_
    rintro e w1 ⟨A1, m1, c1, rfl, h2⟩
    rw [HC.out.2.2] at h2 ⊢
    cases hfk : f (n + 32) with
    | none =>
      have hnow : nowR f n r = r := by unfold nowR; rw [if_pos HCAP.out, hfk]
      rw [hfk] at h2
      simp only [regOr, Option.getD_none, Option.isSome_none] at h2 ⊢
      have h3 := h2.alloc #[.int .i64 0, .slice A1 m1 c1] 24
      obtain ⟨W3, hW3⟩ : ∃ W3, w1.alloc (.cells #[.int .i64 0, .slice A1 m1 c1] 24) = W3 := ⟨_, rfl⟩
      rw [hW3] at h3
      clear x0 x1 x2 x3
      obtain ⟨x0, x1, x2, x3⟩ := reg_cells (show W3.heap[w.heap.size]? = some (.cells #[.int .i64 r.1, .slice A m c] 24 (0, 0)) from h3.i3)
      have hl3 : Lines W3 A m c r.2 := h3.i2
      have H3 := Lib.hid h3
      have HL3 := Lib.hid hl3
      have HN := Lib.hid (And.intro hnow hfk)
      clear h2 h3 hl3 hnow hfk H1
      by_cases hbig : 4096 < sizeL r.2
      · have g3 : (4096 : Int) < ((sizeL r.2 : Nat) : Int) := by omega
        have hE : putE f n r = 21 := by unfold putE; rw [if_pos HC.out.1, HN.out.1, if_pos hbig]
        have hF : putF f n r = f := by unfold putF; rw [if_neg (by rw [hE]; omega)]
        have HEF := Lib.hid (And.intro hE hF)
        clear hE hF
        go_wp2_with fail
        refine (size5_calls _ _ _ r.2 _ HL3.out (by omega)).mono ?_
        rintro e w4 ⟨rfl, rfl⟩
        go_wp2_with fail
        go_ret
        rw [HEF.out.1, HEF.out.2]
        exact ⟨rfl, H3.out.sel (by simp +contextual)⟩
      · have g3 : ¬ (4096 : Int) < ((sizeL r.2 : Nat) : Int) := by omega
        have hE : putE f n r = 0 := by unfold putE; rw [if_pos HC.out.1, HN.out.1, if_neg hbig]
        have hF : putF f n r = updR f (n + 32) (some r) := by unfold putF; rw [if_pos hE, HN.out.1, HC.out.2.1]
        have HEF := Lib.hid (And.intro hE hF)
        clear hE hF
        go_wp2_with fail
        refine (size5_calls _ _ _ r.2 _ HL3.out (by omega)).mono ?_
        rintro e w4 ⟨rfl, rfl⟩
        go_wp2_with fail
        rw [show ((n : Int) + 32) = ((n + 32 : Nat) : Int) by omega]
        refine (rset_st (n + 32) r _ H3.out HL3.out hlt2).mono ?_
        rintro e w5 ⟨rfl, h5⟩
        have H5 := Lib.hid h5
        clear h5
        go_wp2_with fail
        go_ret
        rw [HEF.out.1, HEF.out.2]
        exact ⟨rfl, H5.out.sel (by simp +contextual)⟩
    | some was =>
      have hnow : nowR f n r = join was r := by unfold nowR; rw [if_pos HCAP.out, hfk]
      have hwas := hf _ _ hfk
      have hwl := length_le_sizeL was.2
      have hsj := sizeL_join was r
      rw [hfk] at h2
      simp only [regOr, Option.getD_some, Option.isSome_some] at h2 ⊢
      have h3 := h2.alloc #[.int .i64 was.1, .slice A1 m1 c1] 24
      obtain ⟨W3, hW3⟩ : ∃ W3, w1.alloc (.cells #[.int .i64 was.1, .slice A1 m1 c1] 24) = W3 := ⟨_, rfl⟩
      rw [hW3] at h3
      clear x0 x1 x2 x3
      obtain ⟨x0, x1, x2, x3⟩ := reg_cells (show W3.heap[w.heap.size]? = some (.cells #[.int .i64 r.1, .slice A m c] 24 (0, 0)) from h3.i3)
      obtain ⟨y0, y1, y2, y3⟩ := reg_cells (show W3.heap[w1.heap.size]? = some (.cells #[.int .i64 was.1, .slice A1 m1 c1] 24 (0, 0)) from h3.i0)
      have hl3 : Lines W3 A m c r.2 := h3.i2
      have hl4 : Lines W3 A1 m1 c1 was.2 := h3.i1
      have H3 := Lib.hid h3
      have HL3 := Lib.hid (And.intro hl3 hl4)
      have HN := Lib.hid (And.intro hnow hfk)
      have hz1 : sizeL was.2 ≤ 4503599627370496 := by omega
      have hz2 : sizeL r.2 ≤ 4503599627370496 := by omega
      have hz3 : was.2.length ≤ 268435456 := by omega
      have hz4 : r.2.length ≤ 268435456 := by omega
      have hz5 : sizeL (join was r).2 ≤ 4611686018427387904 := by omega
      clear h2 h3 hl3 hl4 hnow hfk H1 hsj hwas hwl
      go_wp2_with fail
      refine (rjoin_calls _ _ was r _ ⟨_, _, _, rfl, HL3.out.2⟩ ⟨_, _, _, rfl, HL3.out.1⟩ hz1 hz2 hz3 hz4).mono ?_
      rintro e w4 ⟨u, rfl, ⟨A2, n2, c2, rfl, hl2⟩, hO4⟩
      generalize join was r = jr at *
      have h4 := (H3.out.no hO4).addl hl2
      have hfp4 : w4.heap[w.heap.size]? = some (.cells #[.int .i64 r.1, .slice A m c] 24 (0, 0)) := (h4.fs (.cells w.heap.size #[.int .i64 r.1, .slice A m c] 24) (by simp)).1
      have haw4 : ¬ Foot w4 P w.heap.size := (h4.fs (.cells w.heap.size #[.int .i64 r.1, .slice A m c] 24) (by simp)).2
      have hst := store_heap (x := .int .i64 jr.1) (y := .slice A2 n2 c2) hfp4
      have hoS := only_two w4 w.heap.size (.int .i64 jr.1) (.slice A2 n2 c2)
      have h5 := h4.write (gs := .lines A2 n2 c2 jr.2 :: fs) hfp4 hw0 haw4 (fun o s => by rcases o with _ | _ | o <;> simp) hoS hst (by
        intro x hx
        right
        rcases List.mem_cons.1 hx with rfl | hx
        · exact ⟨by simp, fun b ds t' e => by cases e⟩
        · refine ⟨by simp [hx], fun b ds t' e => ?_⟩
          subst e
          have := HOLD.out _ _ _ hx
          omega)
      have hl5 : Lines ((w4.setCell ⟨w.heap.size, 0, none⟩ (.int .i64 jr.1)).setCell ⟨w.heap.size, 1, none⟩ (.slice A2 n2 c2)) A2 n2 c2 jr.2 := h5.i0
      obtain ⟨z0, z1, z2, z3⟩ := reg_cells hfp4
      have H5 := Lib.hid h5
      have HL5 := Lib.hid hl5
      clear h4 hst hoS h5 hl5 haw4 hl2 hO4 H3 HL3 hfp4 x0 x1 x2 x3 y0 y1 y2 y3
      by_cases hbig : 4096 < sizeL jr.2
      · have g3 : (4096 : Int) < ((sizeL jr.2 : Nat) : Int) := by omega
        have hE : putE f n r = 21 := by unfold putE; rw [if_pos HC.out.1, HN.out.1, if_pos hbig]
        have hF : putF f n r = f := by unfold putF; rw [if_neg (by rw [hE]; omega)]
        have HEF := Lib.hid (And.intro hE hF)
        clear hE hF
        go_wp2_with fail
        refine (size5_calls _ _ _ jr.2 _ HL5.out hz5).mono ?_
        rintro e w5 ⟨rfl, rfl⟩
        go_wp2_with fail
        go_ret
        rw [HEF.out.1, HEF.out.2]
        exact ⟨rfl, H5.out.sel (by simp +contextual)⟩
      · have g3 : ¬ (4096 : Int) < ((sizeL jr.2 : Nat) : Int) := by omega
        have hE : putE f n r = 0 := by unfold putE; rw [if_pos HC.out.1, HN.out.1, if_neg hbig]
        have hF : putF f n r = updR f (n + 32) (some jr) := by unfold putF; rw [if_pos hE, HN.out.1, HC.out.2.1]
        have HEF := Lib.hid (And.intro hE hF)
        clear hE hF
        go_wp2_with fail
        refine (size5_calls _ _ _ jr.2 _ HL5.out hz5).mono ?_
        rintro e w5 ⟨rfl, rfl⟩
        go_wp2_with fail
        rw [show ((n : Int) + 32) = ((n + 32 : Nat) : Int) by omega]
        refine (rset_st (n + 32) jr _ H5.out HL5.out hlt2).mono ?_
        rintro e w6 ⟨rfl, h6⟩
        have H6 := Lib.hid h6
        clear h6
        go_wp2_with fail
        go_ret
        rw [HEF.out.1, HEF.out.2]
        exact ⟨rfl, H6.out.sel (by simp +contextual)⟩
  · have hcf : isCap n = false := by simpa using hcap
    have HCF := Lib.hid hcf
    clear hcap
    by_cases hlow : isLow n = true
    · have hlet : isLetter n = true := by unfold isLetter; rw [hlow, Bool.true_or]
      have hnow : nowR f n r = r := by unfold nowR; rw [hcf]; rfl
      have hkl : keyL n = n := by unfold keyL; rw [hcf]; rfl
      simp [isLow] at hlow
      obtain ⟨hl1, hl2⟩ := hlow
      have g1 : (65 : Int) ≤ (n : Int) := by omega
      have g2 : ¬ (n : Int) ≤ 90 := by omega
      have g4 : ¬ (n : Int) < 97 := by omega
      have g5 : ¬ (122 : Int) < (n : Int) := by omega
      have hl3 : Lines W A m c r.2 := H1.out.i0
      have HL3 := Lib.hid hl3
      clear hl3 hcf
      by_cases hbig : 4096 < sizeL r.2
      · have g3 : (4096 : Int) < ((sizeL r.2 : Nat) : Int) := by omega
        have hE : putE f n r = 21 := by unfold putE; rw [if_pos hlet, hnow, if_pos hbig]
        have hF : putF f n r = f := by unfold putF; rw [if_neg (by rw [hE]; omega)]
        have HEF := Lib.hid (And.intro hE hF)
        clear hE hF hnow hkl hlet
        go_enter Try.func24, Try.ntmps24
        go_wp2_with fail
        refine (size5_calls _ _ _ r.2 _ HL3.out (by omega)).mono ?_
        rintro e w4 ⟨rfl, rfl⟩
        go_wp2_with fail
        go_ret
        rw [HEF.out.1, HEF.out.2]
        exact ⟨rfl, H1.out.sel (by simp +contextual)⟩
      · have g3 : ¬ (4096 : Int) < ((sizeL r.2 : Nat) : Int) := by omega
        have hE : putE f n r = 0 := by unfold putE; rw [if_pos hlet, hnow, if_neg hbig]
        have hF : putF f n r = updR f n (some r) := by unfold putF; rw [if_pos hE, hnow, hkl]
        have HEF := Lib.hid (And.intro hE hF)
        clear hE hF hnow hkl hlet
        go_enter Try.func24, Try.ntmps24
        go_wp2_with fail
        refine (size5_calls _ _ _ r.2 _ HL3.out (by omega)).mono ?_
        rintro e w4 ⟨rfl, rfl⟩
        go_wp2_with fail
        refine (rset_st n r _ H1.out HL3.out hlt).mono ?_
        rintro e w5 ⟨rfl, h5⟩
        have H5 := Lib.hid h5
        clear h5
        go_wp2_with fail
        go_ret
        rw [HEF.out.1, HEF.out.2]
        exact ⟨rfl, H5.out.sel (by simp +contextual)⟩
    · have hlet : isLetter n = false := by unfold isLetter; rw [hcf]; simpa using hlow
      have hE : putE f n r = 23 := by unfold putE; rw [hlet]; rfl
      have hF : putF f n r = f := by unfold putF; rw [if_neg (by rw [hE]; omega)]
      have HEF := Lib.hid (And.intro hE hF)
      have hcase : n < 65 ∨ (65 ≤ n ∧ 90 < n ∧ n < 97) ∨ (65 ≤ n ∧ 90 < n ∧ 97 ≤ n ∧ 122 < n) := by
        simp [isCap] at hcf
        simp [isLow] at hlow
        omega
      clear hE hF hlet hcf hlow
      rcases hcase with g | ⟨ga, gb, gc⟩ | ⟨ga, gb, gc, gd⟩
      · have g1 : (n : Int) < 65 := by omega
        have g2 : (n : Int) < 97 := by omega
        go_enter Try.func24, Try.ntmps24
        go_wp2_with fail
        go_ret
        rw [HEF.out.1, HEF.out.2]
        exact ⟨rfl, H1.out.sel (by simp +contextual)⟩
      · have g1 : (65 : Int) ≤ (n : Int) := by omega
        have g2 : (90 : Int) < (n : Int) := by omega
        have g3 : (n : Int) < 97 := by omega
        go_enter Try.func24, Try.ntmps24
        go_wp2_with fail
        go_ret
        rw [HEF.out.1, HEF.out.2]
        exact ⟨rfl, H1.out.sel (by simp +contextual)⟩
      · have g1 : (65 : Int) ≤ (n : Int) := by omega
        have g2 : (90 : Int) < (n : Int) := by omega
        have g3 : (97 : Int) ≤ (n : Int) := by omega
        have g4 : (122 : Int) < (n : Int) := by omega
        go_enter Try.func24, Try.ntmps24
        go_wp2_with fail
        go_ret
        rw [HEF.out.1, HEF.out.2]
        exact ⟨rfl, H1.out.sel (by simp +contextual)⟩

set_option maxHeartbeats 4000000 in
set_option maxRecDepth 100000 in
theorem ryank_st (n : Nat) (r : Reg) (w : World) {A : Option Addr} {m c : Nat} (h : RSt w0 w base P f fs) (hL : Lines w A m c r.2) (hlt : n < 256) (hsz : sizeL r.2 ≤ 268435456) (hf : Bd f) :
    Calls Try.prog 22 #[.pointer (some ⟨P, 0, none⟩), .int .u8 (n : Int), .agg #[.int .i64 r.1, .slice A m c]] w fun e w' => e = .returned (.int .i64 (setE f n r : Nat)) ∧ RSt w0 w' base P (setF f (updR f 48 (some r)) n r) fs := by
  have hO : Only No w (w.alloc (.cells #[.int .i64 r.1, .slice A m c] 24)) := (Only.refl _ _).alloc _
  have h1 := (h.alloc #[.int .i64 r.1, .slice A m c] 24).addl (hL.only hO (fun _ _ h => h.elim))
  have hw0 : w0.heap.size ≤ w.heap.size := h.only.size
  have hln := length_le_sizeL r.2
  obtain ⟨W, hW⟩ : ∃ W, w.alloc (.cells #[.int .i64 r.1, .slice A m c] 24) = W := ⟨_, rfl⟩
  rw [hW] at h1
  have hfp : W.heap[w.heap.size]? = some (.cells #[.int .i64 r.1, .slice A m c] 24 (0, 0)) := h1.i1
  obtain ⟨x0, x1, x2, x3⟩ := reg_cells hfp
  have H1 := Lib.hid h1
  have HL1 := Lib.hid (show Lines W A m c r.2 from h1.i0)
  clear h hL hO h1 hfp
  by_cases h95 : n = 95
  · subst h95
    have HEF := Lib.hid (show setE f 95 r = 0 ∧ setF f (updR f 48 (some r)) 95 r = f from ⟨if_pos rfl, if_pos rfl⟩)
    go_enter Try.func22, Try.ntmps22
    go_wp2_with fail
    go_ret
    rw [HEF.out.1, HEF.out.2]
    exact ⟨rfl, H1.out.sel (by simp +contextual)⟩
  · have g95 : ((n : Int) == 95) = false := by rw [beq_eq_false_iff_ne]; omega
    cases hpl : isPlain n with
    | true =>
      have hc : n = 0 ∨ n = 34 := by simpa [isPlain] using hpl
      by_cases hbig : 4096 < sizeL r.2
      · have g3 : (4096 : Int) < ((sizeL r.2 : Nat) : Int) := by omega
        have HEF := Lib.hid (show setE f n r = 21 ∧ setF f (updR f 48 (some r)) n r = f from ⟨by unfold setE; rw [if_neg h95, if_pos hpl, if_pos hbig], by unfold setF; rw [if_neg h95, if_pos hpl, if_pos hbig]⟩)
        clear hpl h95
        rcases hc with rfl | rfl
        all_goals (
          go_enter Try.func22, Try.ntmps22
          go_wp2_with fail
          refine (size5_calls _ _ _ r.2 _ HL1.out (by omega)).mono ?_
          rintro e w4 ⟨rfl, rfl⟩
          go_wp2_with fail
          go_ret
          rw [HEF.out.1, HEF.out.2]
          exact ⟨rfl, H1.out.sel (by simp +contextual)⟩)
      · have g3 : ¬ (4096 : Int) < ((sizeL r.2 : Nat) : Int) := by omega
        have HEF := Lib.hid (show setE f n r = 0 ∧ setF f (updR f 48 (some r)) n r = updR (updR f 48 (some r)) 34 (some r) from ⟨by unfold setE; rw [if_neg h95, if_pos hpl, if_neg hbig], by unfold setF; rw [if_neg h95, if_pos hpl, if_neg hbig]⟩)
        clear hpl h95
        rcases hc with rfl | rfl
        all_goals (
          go_enter Try.func22, Try.ntmps22
          go_wp2_with fail
          refine (size5_calls _ _ _ r.2 _ HL1.out (by omega)).mono ?_
          rintro e w4 ⟨rfl, rfl⟩
          go_wp2_with fail
          refine (rset_st 48 r _ H1.out HL1.out (by omega)).mono ?_
          rintro e w5 ⟨rfl, h5⟩
          clear x0 x1 x2 x3
          obtain ⟨x0, x1, x2, x3⟩ := reg_cells (show w5.heap[w.heap.size]? = some (.cells #[.int .i64 r.1, .slice A m c] 24 (0, 0)) from h5.i1)
          have HL5 := Lib.hid (show Lines w5 A m c r.2 from h5.i0)
          have H5 := Lib.hid h5
          clear h5
          go_wp2_with fail
          refine (rset_st 34 r _ H5.out HL5.out (by omega)).mono ?_
          rintro e w6 ⟨rfl, h6⟩
          have H6 := Lib.hid h6
          clear h6
          go_wp2_with fail
          go_ret
          rw [HEF.out.1, HEF.out.2]
          exact ⟨rfl, H6.out.sel (by simp +contextual)⟩)
    | false =>
      have hn0 : n ≠ 0 ∧ n ≠ 34 := by simpa [isPlain] using hpl
      have g1 : ((n : Int) == 0) = false := by rw [beq_eq_false_iff_ne]; omega
      have g2 : ((n : Int) == 34) = false := by rw [beq_eq_false_iff_ne]; omega
      by_cases hE : putE f n r = 0
      · obtain ⟨hlet, hsn⟩ := putE_letter hE
        have hF : putF f n r = updR f (keyL n) (some (nowR f n r)) := by unfold putF; rw [if_pos hE]
        have hko := keyOf_letter hlet
        have HEF := Lib.hid (show setE f n r = 0 ∧ setF f (updR f 48 (some r)) n r = updR (putF f n r) 34 (some (nowR f n r)) from ⟨by unfold setE; rw [if_neg h95, hpl]; exact hE, by unfold setF; rw [if_neg h95, hpl]; simp only [Bool.false_eq_true, if_false]; rw [if_pos hE]⟩)
        have HG := Lib.hid (show putF f n r (Rg.keyOf n) = some (nowR f n r) from by rw [hF, hko]; unfold updR; rw [if_pos rfl])
        have HE := Lib.hid hE
        clear hpl h95 hE hF hko hlet hn0
        go_enter Try.func22, Try.ntmps22
        go_wp2_with fail
        refine (rput_st n r _ H1.out HL1.out hlt hsz hf).mono ?_
        rintro e w5 ⟨rfl, h5⟩
        rw [HE.out]
        have H5 := Lib.hid h5
        clear h5
        go_wp2_with fail
        refine (rget_st n _ H5.out hlt).mono ?_
        rintro e w6 ⟨A1, m1, c1, rfl, h6⟩
        rw [HG.out] at h6 ⊢
        simp only [regOr, Option.getD_some, Option.isSome_some] at h6 ⊢
        have h7 := h6.alloc #[.int .i64 (nowR f n r).1, .slice A1 m1 c1] 24
        have HL7 := Lib.hid (show Lines (w6.alloc (.cells #[.int .i64 (nowR f n r).1, .slice A1 m1 c1] 24)) A1 m1 c1 (nowR f n r).2 from h7.i1)
        have H7 := Lib.hid h7
        clear h6 h7 H5 H1 HL1 x0 x1 x2 x3
        generalize nowR f n r = now at *
        go_wp2_with fail
        refine (rset_st 34 now _ H7.out HL7.out (by omega)).mono ?_
        rintro e w8 ⟨rfl, h8⟩
        have H8 := Lib.hid h8
        clear h8
        go_wp2_with fail
        go_ret
        rw [HEF.out.1, HEF.out.2]
        exact ⟨rfl, H8.out.sel (by simp +contextual)⟩
      · have hF : putF f n r = f := by unfold putF; rw [if_neg hE]
        have hne : (((putE f n r : Nat) : Int) == 0) = false := by rw [beq_eq_false_iff_ne]; omega
        have HEF := Lib.hid (show setE f n r = putE f n r ∧ setF f (updR f 48 (some r)) n r = f from ⟨by unfold setE; rw [if_neg h95, hpl]; rfl, by unfold setF; rw [if_neg h95, hpl]; simp only [Bool.false_eq_true, if_false]; rw [if_neg hE]⟩)
        have hneb : (((putE f n r : Nat) : Int) != 0) = true := by rw [bne_iff_ne]; omega
        have HF := Lib.hid hF
        clear hpl h95 hE hF hn0
        go_enter Try.func22, Try.ntmps22
        go_wp2_with fail
        refine (rput_st n r _ H1.out HL1.out hlt hsz hf).mono ?_
        rintro e w5 ⟨rfl, h5⟩
        rw [HF.out] at h5
        have H5 := Lib.hid h5
        clear h5
        go_wp2_with fail
        go_ret
        rw [HEF.out.1, HEF.out.2]
        exact ⟨rfl, H5.out.sel (by simp +contextual)⟩

set_option maxHeartbeats 4000000 in
set_option maxRecDepth 100000 in
theorem rcut_st (n : Nat) (r : Reg) (w : World) {A : Option Addr} {m c : Nat} (h : RSt w0 w base P f fs) (hL : Lines w A m c r.2) (hlt : n < 256) (hsz : sizeL r.2 ≤ 268435456) (hf : Bd f) :
    Calls Try.prog 25 #[.pointer (some ⟨P, 0, none⟩), .int .u8 (n : Int), .agg #[.int .i64 r.1, .slice A m c]] w fun e w' => e = .returned (.int .i64 (setE f n r : Nat)) ∧ RSt w0 w' base P (setF f (cutF f r) n r) fs := by
  have HML := Lib.hid hL.len
  have hO : Only No w (w.alloc (.cells #[.int .i64 r.1, .slice A m c] 24)) := (Only.refl _ _).alloc _
  have h1 := (h.alloc #[.int .i64 r.1, .slice A m c] 24).addl (hL.only hO (fun _ _ h => h.elim))
  have hw0 : w0.heap.size ≤ w.heap.size := h.only.size
  have hln := length_le_sizeL r.2
  obtain ⟨W, hW⟩ : ∃ W, w.alloc (.cells #[.int .i64 r.1, .slice A m c] 24) = W := ⟨_, rfl⟩
  rw [hW] at h1
  have hfp : W.heap[w.heap.size]? = some (.cells #[.int .i64 r.1, .slice A m c] 24 (0, 0)) := h1.i1
  obtain ⟨x0, x1, x2, x3⟩ := reg_cells hfp
  have H1 := Lib.hid h1
  have HL1 := Lib.hid (show Lines W A m c r.2 from h1.i0)
  clear h hL hO h1 hfp
  cases hpl : isPlain n with
  | false =>
    have hn0 : n ≠ 0 ∧ n ≠ 34 := by simpa [isPlain] using hpl
    have g1 : ((n : Int) != 0) = true := by rw [bne_iff_ne]; omega
    have g2 : ((n : Int) != 34) = true := by rw [bne_iff_ne]; omega
    have HEF := Lib.hid (show setF f (cutF f r) n r = setF f (updR f 48 (some r)) n r from by unfold setF; rw [hpl]; rfl)
    clear hpl hn0
    go_enter Try.func25, Try.ntmps25
    go_wp2_with fail
    refine (ryank_st n r _ H1.out HL1.out hlt hsz hf).mono ?_
    rintro e w5 ⟨rfl, h5⟩
    have H5 := Lib.hid h5
    clear h5
    go_wp2_with fail
    go_ret
    rw [HEF.out]
    exact ⟨rfl, H5.out.sel (by simp +contextual)⟩
  | true =>
    have h95 : ¬ n = 95 := by rintro rfl; cases hpl
    have hc : n = 0 ∨ n = 34 := by simpa [isPlain] using hpl
    by_cases hbig : 4096 < sizeL r.2
    · have g3 : (4096 : Int) < ((sizeL r.2 : Nat) : Int) := by omega
      have HEF := Lib.hid (show setE f n r = 21 ∧ setF f (cutF f r) n r = f from ⟨by unfold setE; rw [if_neg h95, if_pos hpl, if_pos hbig], by unfold setF; rw [if_neg h95, if_pos hpl, if_pos hbig]⟩)
      clear hpl h95
      rcases hc with rfl | rfl
      all_goals (
        go_enter Try.func25, Try.ntmps25
        go_wp2_with fail
        refine (size5_calls _ _ _ r.2 _ HL1.out (by omega)).mono ?_
        rintro e w4 ⟨rfl, rfl⟩
        go_wp2_with fail
        go_ret
        rw [HEF.out.1, HEF.out.2]
        exact ⟨rfl, H1.out.sel (by simp +contextual)⟩)
    · have g3 : ¬ (4096 : Int) < ((sizeL r.2 : Nat) : Int) := by omega
      have HEF := Lib.hid (show setE f n r = 0 ∧ setF f (cutF f r) n r = updR (cutF f r) 34 (some r) from ⟨by unfold setE; rw [if_neg h95, if_pos hpl, if_neg hbig], by unfold setF; rw [if_neg h95, if_pos hpl, if_neg hbig]⟩)
      clear hpl h95
      cases hsm : isSmall r with
      | true =>
        have hs : r.1 ≠ 1 ∧ r.2.length ≤ 1 := by simpa [isSmall] using hsm
        have g4 : (r.1 == 1) = false := by rw [beq_eq_false_iff_ne]; exact hs.1
        have g5 : ¬ (1 : Int) < (m : Int) := by have := HML.out; omega
        have HC := Lib.hid (show cutF f r = updR f 45 (some r) from by unfold cutF; rw [if_pos hsm])
        clear hsm hs
        rcases hc with rfl | rfl
        all_goals (
          go_enter Try.func25, Try.ntmps25
          go_wp2_with fail
          refine (size5_calls _ _ _ r.2 _ HL1.out (by omega)).mono ?_
          rintro e w4 ⟨rfl, rfl⟩
          go_wp2_with fail
          refine (rset_st 45 r _ H1.out HL1.out (by omega)).mono ?_
          rintro e w5 ⟨rfl, h5⟩
          rw [← HC.out] at h5
          clear x0 x1 x2 x3
          obtain ⟨x0, x1, x2, x3⟩ := reg_cells (show w5.heap[w.heap.size]? = some (.cells #[.int .i64 r.1, .slice A m c] 24 (0, 0)) from h5.i1)
          have HL5 := Lib.hid (show Lines w5 A m c r.2 from h5.i0)
          have H5 := Lib.hid h5
          clear h5
          go_wp2_with fail
          refine (rset_st 34 r _ H5.out HL5.out (by omega)).mono ?_
          rintro e w6 ⟨rfl, h6⟩
          have H6 := Lib.hid h6
          clear h6
          go_wp2_with fail
          go_ret
          rw [HEF.out.1, HEF.out.2]
          exact ⟨rfl, H6.out.sel (by simp +contextual)⟩)
      | false =>
        have hs : r.1 = 1 ∨ (r.1 ≠ 1 ∧ 1 < r.2.length) := by
          have : ¬ (r.1 ≠ 1 ∧ r.2.length ≤ 1) := by simpa [isSmall] using hsm
          by_cases h1 : r.1 = 1
          · exact .inl h1
          · exact .inr ⟨h1, by omega⟩
        have hs2 : (r.1 == 1) = true ∨ ((r.1 == 1) = false ∧ (1 : Int) < (m : Int)) := by
          rcases hs with h1 | ⟨h1, h2⟩
          · exact .inl (beq_iff_eq.2 h1)
          · exact .inr ⟨by rw [beq_eq_false_iff_ne]; exact h1, by have := HML.out; omega⟩
        have HC := Lib.hid (show cutF f r = updR (shiftTo f 49) 49 (some r) from by unfold cutF; rw [if_neg (by rw [hsm]; exact Bool.false_ne_true)])
        clear hsm hs
        rcases hc with rfl | rfl
        all_goals rcases hs2 with g4 | ⟨g4, g5⟩
        all_goals (
          go_enter Try.func25, Try.ntmps25
          go_wp2_with fail
          refine (size5_calls _ _ _ r.2 _ HL1.out (by omega)).mono ?_
          rintro e w4 ⟨rfl, rfl⟩
          go_wp2_with fail
          go_loopw [7, 8, 9] (fun k _ _ wr => ∃ kk : Nat, k = .int .u8 (kk : Int) ∧ 49 ≤ kk ∧ kk ≤ 57 ∧ RSt w0 wr base P (shiftTo f kk) (.lines A m c r.2 :: .cells w.heap.size #[.int .i64 r.1, .slice A m c] 24 :: fs)) (fun k _ _ _ => (intOf k).toNat)
          case atStart => exact ⟨57, rfl, by omega, by omega, by rw [shiftTo_top]; exact H1.out⟩
          case round =>
            obtain ⟨kk, rfl, hk1, hk2, h2⟩ := hrel
            clear x0 x1 x2 x3
            have H2 := Lib.hid h2
            clear h2 H1
            by_cases hgt : 49 < kk
            · obtain ⟨j, rfl⟩ : ∃ j, kk = j + 1 := ⟨kk - 1, by omega⟩
              have g6 : (49 : Int) < ((j + 1 : Nat) : Int) := by omega
              have hko : Rg.keyOf j = j := by unfold Rg.keyOf; rw [if_neg (by omega), if_neg (by omega)]
              have hsa := shiftTo_at f (j + 1) j (by omega)
              have HK := Lib.hid (show shiftTo f (j + 1) (Rg.keyOf j) = f j from by rw [hko]; exact hsa)
              clear hko hsa
              go_wp2_with fail
              refine (rget_st j _ H2.out (by omega)).mono ?_
              rintro e w6 ⟨A1, m1, c1, rfl, h6⟩
              rw [HK.out] at h6 ⊢
              clear H2
              cases hfj : f j with
              | none =>
                rw [hfj] at h6
                simp only [regOr, Option.getD_none, Option.isSome_none] at h6 ⊢
                have h7 := h6.alloc #[.int .i64 0, .slice A1 m1 c1] 24
                rw [shiftTo_none (by omega) hfj] at h7
                have H7 := Lib.hid (h7.sel (gs := .lines A m c r.2 :: .cells w.heap.size #[.int .i64 r.1, .slice A m c] 24 :: fs) (by simp +contextual))
                clear h6 h7 hfj
                go_wp2_with fail
                go_roundw
                case rel => exact ⟨j, by first | rfl | (simp; done) | (simp; omega), by omega, by omega, H7.out⟩
                case measure => first | (simp [intOf]; done) | (simp [intOf]; omega)
              | some was =>
                rw [hfj] at h6
                simp only [regOr, Option.getD_some, Option.isSome_some] at h6 ⊢
                have h7 := h6.alloc #[.int .i64 was.1, .slice A1 m1 c1] 24
                have HL7 := Lib.hid (show Lines (w6.alloc (.cells #[.int .i64 was.1, .slice A1 m1 c1] 24)) A1 m1 c1 was.2 from h7.i1)
                have H7 := Lib.hid h7
                have HFJ := Lib.hid hfj
                clear h6 h7 hfj
                go_wp2_with fail
                refine (rset_st (j + 1) was _ H7.out HL7.out (by omega)).mono ?_
                rintro e w8 ⟨rfl, h8⟩
                rw [shiftTo_some (by omega) HFJ.out] at h8
                have H8 := Lib.hid (h8.sel (gs := .lines A m c r.2 :: .cells w.heap.size #[.int .i64 r.1, .slice A m c] 24 :: fs) (by simp +contextual))
                clear h8 H7 HL7
                go_wp2_with fail
                go_roundw
                case rel => exact ⟨j, by first | rfl | (simp; done) | (simp; omega), by omega, by omega, H8.out⟩
                case measure => first | (simp [intOf]; done) | (simp [intOf]; omega)
            · obtain rfl : kk = 49 := by omega
              obtain ⟨x0, x1, x2, x3⟩ := reg_cells (show wr.heap[w.heap.size]? = some (.cells #[.int .i64 r.1, .slice A m c] 24 (0, 0)) from H2.out.i1)
              have HL2 := Lib.hid (show Lines wr A m c r.2 from H2.out.i0)
              go_wp2_with fail
              refine (rset_st 49 r _ H2.out HL2.out (by omega)).mono ?_
              rintro e w5 ⟨rfl, h5⟩
              rw [← HC.out] at h5
              clear x0 x1 x2 x3
              obtain ⟨x0, x1, x2, x3⟩ := reg_cells (show w5.heap[w.heap.size]? = some (.cells #[.int .i64 r.1, .slice A m c] 24 (0, 0)) from h5.i1)
              have HL5 := Lib.hid (show Lines w5 A m c r.2 from h5.i0)
              have H5 := Lib.hid h5
              clear h5
              go_wp2_with fail
              refine (rset_st 34 r _ H5.out HL5.out (by omega)).mono ?_
              rintro e w6 ⟨rfl, h6⟩
              have H6 := Lib.hid h6
              clear h6
              go_wp2_with fail
              go_ret
              rw [HEF.out.1, HEF.out.2]
              exact ⟨rfl, H6.out.sel (by simp +contextual)⟩)
end
end Go.Proofs.Ytgdlplkeafeblaa.Rf
