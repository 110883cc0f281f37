/- The example of the registers' chapter. -/
import Derived.Test.YtgdlplkeafeblaaRegsNames
namespace Go.Proofs.Ytgdlplkeafeblaa.Rg
open Go.RowKit Go.Shelf Go.Proofs.Ytgdlplkeafeblaa.MapRaw Go.Proofs.Ytgdlplkeafeblaa.Frm Go.Proofs.Ytgdlplkeafeblaa.Lns Go.Proofs.Ytgdlplkeafeblaa.Keys
set_option linter.unusedVariables false
set_option linter.unusedSimpArgs false
attribute [local go_sem ↓] Go.wp_at_zero Go.wp_at_succ

def rx : Reg := (1, [⟨#[120]⟩])
def ry : Reg := (1, [⟨#[121]⟩])
def k0 : Nat → Option Reg := fun _ => none
def k1 : Nat → Option Reg := setF k0 (cutF k0 rx) 0 rx
def k2 : Nat → Option Reg := setF k1 (cutF k1 ry) 0 ry
theorem k2_names : names k2 = [34, 49, 50] := by decide +kernel
theorem k2_one : k2 49 = some ry := by decide +kernel
theorem k2_two : k2 50 = some rx := by decide +kernel
theorem e1 : setE k0 0 rx = 0 := by decide +kernel
theorem e2 : setE k1 0 ry = 0 := by decide +kernel
theorem e3 : putE k2 33 rx = 23 := by decide +kernel
theorem e4 : putF k2 33 rx = k2 := by unfold putF; rw [e3]; rfl
theorem bk1 : Bd k1 := bd_cut bd_none 0 rx
theorem bk2 : Bd k2 := bd_cut bk1 0 ry
theorem srx : sizeL rx.2 = 2 := by decide +kernel
theorem sry : sizeL ry.2 = 2 := by decide +kernel

/-- The example's state: a file, two registers in variables. -/
structure Ex (w : World) (B M s : Nat) (f : Nat → Option Reg) : Prop where
  at_ : At w B M f
  x : w.heap[s + 1]? = some (.cells #[.int .i64 1, .slice (some ⟨s, 0, none⟩) 1 1] 24 (0, 0))
  y : w.heap[s + 3]? = some (.cells #[.int .i64 1, .slice (some ⟨s + 2, 0, none⟩) 1 1] 24 (0, 0))
  lx : Lines w (some ⟨s, 0, none⟩) 1 1 rx.2
  ly : Lines w (some ⟨s + 2, 0, none⟩) 1 1 ry.2
theorem Ex.step {w w' : World} {B M s : Nat} {f f' : Nat → Option Reg} (h : Ex w B M s f) (ho : Only (fun b => b = M) w w') (hA : At w' B M f') : Ex w' B M s f' := by
  have hb := h.at_.bare
  obtain ⟨g, hg, _⟩ := h.at_.map
  obtain ⟨es, clock, h2⟩ := hg.is_map
  have n1 : s + 1 ≠ M := by rintro rfl; rw [h.x] at h2; cases h2
  have n3 : s + 3 ≠ M := by rintro rfl; rw [h.y] at h2; cases h2
  exact ⟨hA, (ho.block _ (heap_lt h.x) n1).trans h.x, (ho.block _ (heap_lt h.y) n3).trans h.y, h.lx.only ho (fun b _ e => by subst e; exact hb), h.ly.only ho (fun b _ e => by subst e; exact hb)⟩
theorem Ex.no {w w' : World} {B M s : Nat} {f : Nat → Option Reg} (h : Ex w B M s f) (ho : Only No w w') : Ex w' B M s f := h.step (ho.mono (fun _ _ h => h.elim)) (h.at_.no ho)
theorem Ex.cells {w : World} {B M s : Nat} {f : Nat → Option Reg} (h : Ex w B M s f) :
    w.cell? ⟨s + 1, 0, none⟩ = some (.int .i64 1) ∧ w.cell? ⟨s + 1, 1, none⟩ = some (.slice (some ⟨s, 0, none⟩) 1 1) ∧ w.cell? ⟨s + 3, 0, none⟩ = some (.int .i64 1) ∧ w.cell? ⟨s + 3, 1, none⟩ = some (.slice (some ⟨s + 2, 0, none⟩) 1 1) :=
  ⟨(reg_cells h.x).1, (reg_cells h.x).2.1, (reg_cells h.y).1, (reg_cells h.y).2.1⟩
theorem Ex.rx {w : World} {B M s : Nat} {f : Nat → Option Reg} (h : Ex w B M s f) : IsReg w (.agg #[.int .i64 1, .slice (some ⟨s, 0, none⟩) 1 1]) rx := ⟨_, _, _, rfl, h.lx⟩
theorem Ex.ry {w : World} {B M s : Nat} {f : Nat → Option Reg} (h : Ex w B M s f) : IsReg w (.agg #[.int .i64 1, .slice (some ⟨s + 2, 0, none⟩) 1 1]) ry := ⟨_, _, _, rfl, h.ly⟩

theorem g49 : regOr (k2 (keyOf 49)) = ry := by decide +kernel
theorem g50 : regOr (k2 (keyOf 50)) = rx := by decide +kernel
theorem s49 : (k2 (keyOf 49)).isSome = true := by decide +kernel
theorem s50 : (k2 (keyOf 50)).isSome = true := by decide +kernel
structure Ex2 (w : World) (B M s b c : Nat) (A : Option Addr) (n m : Nat) (A' : Option Addr) (n' m' : Nat) : Prop where
  ex : Ex w B M s k2
  p : w.heap[b]? = some (.cells #[.int .i64 1, .slice A n m] 24 (0, 0))
  q : w.heap[c]? = some (.cells #[.int .i64 1, .slice A' n' m'] 24 (0, 0))
  lp : Lines w A n m ry.2
  lq : Lines w A' n' m' rx.2
theorem Ex2.no {w w' : World} {B M s b c : Nat} {A : Option Addr} {n m : Nat} {A' : Option Addr} {n' m' : Nat} (h : Ex2 w B M s b c A n m A' n' m') (ho : Only No w w') : Ex2 w' B M s b c A n m A' n' m' :=
  ⟨h.ex.no ho, (ho.block _ (heap_lt h.p) (fun h => h)).trans h.p, (ho.block _ (heap_lt h.q) (fun h => h)).trans h.q, h.lp.only ho (fun _ _ h => h.elim), h.lq.only ho (fun _ _ h => h.elim)⟩
theorem Ex2.cells {w : World} {B M s b c : Nat} {A : Option Addr} {n m : Nat} {A' : Option Addr} {n' m' : Nat} (h : Ex2 w B M s b c A n m A' n' m') :
    (w.cell? ⟨b, 0, none⟩ = some (.int .i64 1) ∧ w.cell? ⟨b, 1, none⟩ = some (.slice A n m) ∧ w.cell? ⟨c, 0, none⟩ = some (.int .i64 1) ∧ w.cell? ⟨c, 1, none⟩ = some (.slice A' n' m')) ∧
    w.cell? ⟨s + 1, 0, none⟩ = some (.int .i64 1) ∧ w.cell? ⟨s + 1, 1, none⟩ = some (.slice (some ⟨s, 0, none⟩) 1 1) ∧ w.cell? ⟨s + 3, 0, none⟩ = some (.int .i64 1) ∧ w.cell? ⟨s + 3, 1, none⟩ = some (.slice (some ⟨s + 2, 0, none⟩) 1 1) :=
  ⟨⟨(reg_cells h.p).1, (reg_cells h.p).2.1, (reg_cells h.q).1, (reg_cells h.q).2.1⟩, h.ex.cells⟩

set_option maxHeartbeats 8000000 in
set_option maxRecDepth 100000 in
theorem known_calls (w : World) : Calls Try.prog 10 #[] w fun e w' => e = .returned (.bool true) ∧ Below w.heap.size w w' := by
  go_enter Try.func10, Try.ntmps10
  go_wp2_with fail
  refine (new_calls _).mono ?_
  rintro e w1 ⟨rfl, hA1, hO1⟩
  go_wp2_with fail
  obtain ⟨W, hW⟩ : ∃ W, (((w1.alloc (Obj.cells #[.string { data := #[120] }] 9)).alloc (Obj.cells #[.int .i64 1, .slice (some ⟨w1.heap.size, 0, none⟩) 1 1] 24)).alloc (Obj.cells #[.string { data := #[121] }] 9)).alloc (Obj.cells #[.int .i64 1, .slice (some ⟨w1.heap.size + 1 + 1, 0, none⟩) 1 1] 24) = W := ⟨_, rfl⟩
  have hOW : Only No w1 W := by rw [← hW]; exact ((((Only.refl _ _).alloc _).alloc _).alloc _).alloc _
  have hE0 : Ex W.drew (w.heap.size + 1) w.heap.size w1.heap.size k0 := by
    refine ⟨hA1.no hOW.drew, ?_, ?_, ?_, ?_⟩
    · rw [← hW]
      exact (Below.heap_alloc _ _ _ (by simp; try omega)).trans ((Below.heap_alloc _ _ _ (by simp; try omega)).trans (alloc_at (by simp) _))
    · rw [← hW]
      exact alloc_at (by simp) _
    · rw [← hW]
      have h0 := lines_one (w := w1) (s := { data := #[120] }) rfl
      exact h0.only (((((Only.refl No _).alloc _).alloc _).alloc _).drew) (fun _ _ h => h.elim)
    · rw [← hW]
      have h0 := lines_one (w := (w1.alloc (Obj.cells #[.string { data := #[120] }] 9)).alloc (Obj.cells #[.int .i64 1, .slice (some ⟨w1.heap.size, 0, none⟩) 1 1] 24)) (s := { data := #[121] }) (g := w1.heap.size + 2) (by simp)
      exact h0.only (((Only.refl No _).alloc _).drew) (fun _ _ h => h.elim)
  have hOall := (hO1.trans' hOW).drew
  have hsz1 := hO1.size
  have hs1 : w.heap.size + 2 ≤ w1.heap.size := heap_lt hA1.box
  rw [hW]
  have HE0 := Lib.hid hE0
  have HO0 := Lib.hid hOall
  obtain ⟨c0, c1, c2, c3⟩ := (show Ex W (w.heap.size + 1) w.heap.size w1.heap.size k0 from hE0.no (w := W.drew) (w' := W) ⟨rfl, rfl, rfl, Nat.le_refl _, fun _ _ _ => rfl⟩).cells
  clear hE0 hOall hOW hO1 hA1 hW
  generalize w1.heap.size = s at *
  obtain ⟨B, hB⟩ : ∃ B, w.heap.size + 1 = B := ⟨_, rfl⟩
  obtain ⟨M, hM⟩ : ∃ M, w.heap.size = M := ⟨_, rfl⟩
  rw [hB, hM] at HE0
  rw [hB]
  go_region_held3 (fun w' => w'.cell? ⟨s + 1, 0, none⟩ = some (.int .i64 1) ∧ w'.cell? ⟨s + 1, 1, none⟩ = some (.slice (some ⟨s, 0, none⟩) 1 1) ∧ w'.cell? ⟨s + 3, 0, none⟩ = some (.int .i64 1) ∧ w'.cell? ⟨s + 3, 1, none⟩ = some (.slice (some ⟨s + 2, 0, none⟩) 1 1)) (first | go_keep | exact ⟨by assumption, by assumption, by assumption, by assumption⟩)
    (first | (go_at_call 23; refine (put_calls B M k2 33 _ rx _ HEb.out.at_ HEb.out.rx (by omega) (by rw [srx]; omega) bk2).mono ?_; rintro e wc ⟨rfl, hAc, hOc⟩; rw [e4] at hAc; have HEc := Lib.hid (HEb.out.step hOc hAc); obtain ⟨d0, d1, d2, d3⟩ := HEc.out.cells; have HOc := Lib.hid hOc; rw [e3]; clear hAc hOc) | (go_at_call 18; refine (cut_calls B M k1 0 _ ry _ HEa.out.at_ HEa.out.ry (by omega) (by rw [sry]; omega) bk1).mono ?_; rintro e wb ⟨rfl, hAb, hOb⟩; have HEb := Lib.hid (HEa.out.step hOb hAb); obtain ⟨b0, b1, b2, b3⟩ := HEb.out.cells; have HOb := Lib.hid hOb; rw [e2]; clear hAb hOb) | (go_at_call 18; refine (cut_calls B M k0 0 _ rx _ HE0.out.at_ HE0.out.rx (by omega) (by rw [srx]; omega) bd_none).mono ?_; rintro e wa ⟨rfl, hAa, hOa⟩; have HEa := Lib.hid (HE0.out.step hOa hAa); obtain ⟨a0, a1, a2, a3⟩ := HEa.out.cells; have HOa := Lib.hid hOa; rw [e1]; clear hAa hOa))
  have HOall := Lib.hid (((HO0.out.mono (S' := fun b => b = M) (fun _ _ h => h.elim)).trans' HOa.out).trans' (HOb.out.trans' HOc.out))
  clear HOa HOb HOc HO0 HE0 HEa HEb a0 a1 a2 a3 b0 b1 b2 b3 c0 c1 c2 c3 d0 d1 d2 d3
  go_wp2_with fail
  refine (get_calls B M k2 49 _ HEc.out.at_ (by omega) (by rw [g49]; decide +kernel)).mono ?_
  rintro e wd ⟨u, rfl, hu, hOd⟩
  rw [g49] at hu
  rw [s49]
  obtain ⟨A1, n1, m1, rfl, hl1⟩ := hu
  rw [show ry.1 = 1 from rfl]
  have hEd := (HEc.out.no hOd).no ((Only.refl No _).alloc (.cells #[.int .i64 1, .slice A1 n1 m1] 24))
  have HEd := Lib.hid hEd
  have HOd := Lib.hid (HOall.out.trans' ((hOd.alloc (.cells #[.int .i64 1, .slice A1 n1 m1] 24)).mono (S' := fun b => b = M) (fun _ _ h => h.elim)))
  have Hl1 := Lib.hid hl1
  clear hEd hl1 hOd HEc HOall
  go_wp2_with fail
  refine (get_calls B M k2 50 _ HEd.out.at_ (by omega) (by rw [g50]; decide +kernel)).mono ?_
  rintro e we ⟨u, rfl, hu, hOe⟩
  rw [g50] at hu
  rw [s50]
  obtain ⟨A2, n2, m2, rfl, hl2⟩ := hu
  rw [show rx.1 = 1 from rfl]
  have hx := (Only.refl No we).alloc (.cells #[.int .i64 1, .slice A2 n2 m2] 24)
  have hE2 : Ex2 (we.alloc (.cells #[.int .i64 1, .slice A2 n2 m2] 24)) B M s wd.heap.size we.heap.size A1 n1 m1 A2 n2 m2 := by
    have hd := hOe.size
    simp at hd
    refine ⟨(HEd.out.no hOe).no hx, ?_, alloc_new _ _, ?_, hl2.only hx (fun _ _ h => h.elim)⟩
    · exact (hx.block _ (by omega) (fun h => h)).trans ((hOe.block _ (by simp) (fun h => h)).trans (alloc_new wd _))
    · exact ((Hl1.out.only ((Only.refl No wd).alloc _) (fun _ _ h => h.elim)).only hOe (fun _ _ h => h.elim)).only hx (fun _ _ h => h.elim)
  have HE2 := Lib.hid hE2
  have HOe := Lib.hid (HOd.out.trans' ((hOe.alloc (.cells #[.int .i64 1, .slice A2 n2 m2] 24)).mono (S' := fun b => b = M) (fun _ _ h => h.elim)))
  obtain ⟨⟨c0, c1, c2, c3⟩, c4, c5, c6, c7⟩ := hE2.cells
  clear hE2 hl2 hOe hx HEd HOd Hl1
  go_wp2_with fail
  refine (reg_calls _ _ ry ry _ ⟨A1, n1, m1, rfl, HE2.out.lp⟩ HE2.out.ex.ry).mono ?_
  rintro e w5 ⟨rfl, hO5⟩
  rw [decide_eq_true (rfl : ry = ry)]
  have hE5 := HE2.out.no hO5
  have HO5 := Lib.hid (HOe.out.trans' (hO5.mono (S' := fun b => b = M) (fun _ _ h => h.elim)))
  have HE5 := Lib.hid hE5
  clear c0 c1 c2 c3 c4 c5 c6 c7
  obtain ⟨⟨c0, c1, c2, c3⟩, c4, c5, c6, c7⟩ := hE5.cells
  clear hE5 hO5 HE2 HOe
  go_wp2_with fail
  refine (reg_calls _ _ rx rx _ ⟨A2, n2, m2, rfl, HE5.out.lq⟩ HE5.out.ex.rx).mono ?_
  rintro e w6 ⟨rfl, hO6⟩
  rw [decide_eq_true (rfl : rx = rx)]
  have hE6 := HE5.out.no hO6
  have HO6 := Lib.hid (HO5.out.trans' (hO6.mono (S' := fun b => b = M) (fun _ _ h => h.elim)))
  have HE6 := Lib.hid hE6
  clear c0 c1 c2 c3 c4 c5 c6 c7
  obtain ⟨⟨c0, c1, c2, c3⟩, c4, c5, c6, c7⟩ := hE6.cells
  clear hE6 hO6 HE5 HO5
  go_wp2_with fail
  refine (names_calls B M k2 _ HE6.out.ex.at_ (by rw [k2_names]; decide)).mono ?_
  rintro e w7 ⟨v, rfl, hrow, hb7⟩
  have hstr := run_string_row (src := 34) (dst := 9) Try.underlying34 Try.underlying9 hrow
  rw [k2_names] at hstr
  have es : str8 [34, 49, 50] = { data := #[34, 49, 50] } := by decide
  rw [es] at hstr
  have hO7 : Only No w6 w7 := Only.of_below hb7
  have hE7 := HE6.out.no hO7
  have HO7 := Lib.hid (HO6.out.trans' (hO7.mono (S' := fun b => b = M) (fun _ _ h => h.elim)))
  have HE7 := Lib.hid hE7
  clear c0 c1 c2 c3 c4 c5 c6 c7 hrow
  obtain ⟨⟨c0, c1, c2, c3⟩, c4, c5, c6, c7⟩ := hE7.cells
  clear hE7 hO7 HE6 HO6 hb7
  go_wp2_with fail
  refine (size_calls _ rx _ HE7.out.ex.rx (by rw [srx]; omega)).mono ?_
  rintro e w8 ⟨rfl, hO8⟩
  rw [srx]
  have hfin := HO7.out.trans' (hO8.mono (S' := fun b => b = M) (fun _ _ h => h.elim))
  go_wp2
  go_ret
  exact ⟨rfl, hfin.below (Nat.le_refl _) (fun k hk => by omega)⟩
end Go.Proofs.Ytgdlplkeafeblaa.Rg
