/- RegsPlay: any script of yanks, cuts, puts comes to just the document's registers; proved for every input, under no condition. -/
import Derived.Test.YtgdlplkeafeblaaRows
import Derived.Test.YtgdlplkeafeblaaRegsKnown
import Derived.Test.YtgdlplkeafeblaaPlay0
import Derived.Test.YtgdlplkeafeblaaActs
import Derived.Test.YtgdlplkeafeblaaPlace
import Derived.Test.YtgdlplkeafeblaaZeros
import Derived.Deep.DeepCutAuto
import Derived.Deep.RegionLaw
import Derived.Deep.RegionHeld3
import Derived.Deep.DrawnRows
import Derived.Deep.CutBlock
import Derived.WalkKit
import Derived.ProofKit
import Derived.OpenShut
import Derived.ChangeOld
import Derived.SizedLaws
namespace Go.Proofs.Ytgdlplkeafeblaa.regsPlay
open Go.RowKit Go.Shelf Go.Proofs.Ytgdlplkeafeblaa.MapRaw Go.Proofs.Ytgdlplkeafeblaa.Frm Go.Proofs.Ytgdlplkeafeblaa.Lns Go.Proofs.Ytgdlplkeafeblaa.Rg Go.Proofs.Ytgdlplkeafeblaa.Arg Go.Proofs.Ytgdlplkeafeblaa.Rf
set_option linter.unusedVariables false
set_option linter.unusedSimpArgs false
attribute [local go_sem ↓] Go.wp_at_zero Go.wp_at_succ

def Script (w : World) (A : Option Addr) (n c : Nat) : Prop := n ≤ c ∧ c ≤ maxLen ∧ (n = 0 ∨ ∃ b o, A = some ⟨b, o, none⟩ ∧ b < w.heap.size ∧ ∀ j, j < n → ∃ u nm k A' n' c' L bg, ActIs w b (o + j * 5) u nm k A' n' c' L bg)
def nilf : Nat → Option Reg := fun _ => none

theorem five {w : World} {p : Nat} {a b c d e : Value} {t : TypeId} (h : w.heap[p]? = some (.cells #[a, b, c, d, e] t (0, 0))) : w.cell? ⟨p, 0, none⟩ = some a ∧ w.cell? ⟨p, 1, none⟩ = some b ∧ w.cell? ⟨p, 2, none⟩ = some c ∧ w.cell? ⟨p, 3, none⟩ = some d ∧ w.cell? ⟨p, 4, none⟩ = some e :=
  ⟨Joins.cell_of_block h 0, Joins.cell_of_block h 1, Joins.cell_of_block h 2, Joins.cell_of_block h 3, Joins.cell_of_block h 4⟩

/-- A box of a register has other lines. -/
theorem box_lines {w0 w : World} {B M P p q : Nat} {f g : Nat → Option Reg} {k : Int} {A A2 : Option Addr} {n c n2 c2 : Nat} {L L2 : List ByteArray} {cs : Array Value}
    (h : St2 w0 w B M f P g [.cells p #[.int .i64 k, .slice A n c] 24, .cells q cs 47, .lines A n c L]) (hB : B ≠ p) (hq : q ≠ p) (hge : w0.heap.size ≤ p) (hl : Lines w A2 n2 c2 L2) :
    St2 w0 (w.setCell ⟨p, 1, none⟩ (.slice A2 n2 c2)) B M f P g [.cells p #[.int .i64 k, .slice A2 n2 c2] 24, .cells q cs 47, .lines A2 n2 c2 L2] := by
  have hp : w.heap[p]? = some (.cells #[.int .i64 k, .slice A n c] 24 (0, 0)) := h.i0
  have ha : ¬ Foot w P p := (h.rst.fs (.cells p #[.int .i64 k, .slice A n c] 24) (by simp)).2
  refine (h.addl hl).write (p := p) hp hge ha (fun o s => by rcases o with _ | _ | o <;> simp) ((Only.refl (fun b => b = p) w).setCell (p := ⟨p, 1, none⟩) (.inr rfl) _) (store_cell1 hp) hB (fun x hx => ?_)
  simp only [List.mem_cons, List.not_mem_nil, or_false] at hx
  rcases hx with rfl | rfl | rfl
  · exact .inl rfl
  · exact .inr ⟨by simp, fun b ds t' e => by cases e; exact hq⟩
  · exact .inr ⟨by simp, fun b ds t' e => by cases e⟩

theorem lines_blk {w : World} {g : Nat} {s : ByteArray} (h : w.heap[g]? = some (.cells #[.string s] 9 (0, 0))) : Lines w (some ⟨g, 0, none⟩) 1 1 [s] := by
  refine ⟨rfl, Nat.le_refl _, by unfold maxLen; omega, (by intro e; cases e), .inr ⟨_, 0, rfl, heap_lt h, fun i hi => ?_⟩⟩
  obtain rfl : i = 0 := by omega
  simp [World.cell?, h, lat]

theorem reg_same (v v' : Value) (r : Reg) (w : World) (h : IsReg w v r) (h' : IsReg w v' r) : Calls Try.prog 13 #[v, v'] w fun e w' => e = .returned (.bool true) ∧ Only No w w' := by
  refine (reg_calls _ _ r r _ h h').mono ?_
  rintro e w3 ⟨rfl, hO⟩
  rw [decide_eq_true (rfl : r = r)]
  exact ⟨rfl, hO⟩

set_option maxHeartbeats 8000000 in
set_option maxRecDepth 100000 in
theorem law_any (A : Option Addr) (n c : Nat) (name : Nat) (w : World) (hl : Script w A n c) (hname : name < 256) :
    Calls Try.prog 5 #[.slice A n c, .int .u8 (name : Int)] w fun e w' => e = .returned (.bool true) ∧ Below w.heap.size w w' := by
  have HL := Lib.hid hl
  clear hl
  by_cases hn : 40 < n
  · have g : (40 : Int) < (n : Int) := by omega
    go_enter Try.func5, Try.ntmps5
    go_wp2_with (go_at_call 10; refine (known_calls _).mono ?_; rintro e w1 ⟨rfl, hb⟩)
    go_ret
    exact ⟨rfl, hb⟩
  · have g : ¬ (40 : Int) < (n : Int) := by omega
    go_enter Try.func5, Try.ntmps5
    go_wp2_with (go_at_call 10; refine (known_calls _).mono ?_; rintro e w1 ⟨rfl, hb⟩)
    refine (new_st w w1 hb).mono ?_
    rintro e w2 ⟨B, M, rfl, hS⟩
    clear hb
    have hS1 := start2 hS
    obtain ⟨P, hP⟩ : ∃ P, w2.heap.size = P := ⟨_, rfl⟩
    rw [hP] at hS1
    have HS1 := Lib.hid hS1
    clear hS hS1
    go_wp2_with fail
    go_loopw [7, 8, 9, 10, 11, 12, 14, 15, 16, 17, 18] (fun i _ _ _ _ _ _ _ _ _ _ wr => ∃ (j : Nat) (f : Nat → Option Reg), i = .int .i64 (j : Int) ∧ j ≤ n ∧ St2 w wr B M f P f [] ∧ KOk f) (fun i _ _ _ _ _ _ _ _ _ _ _ => n - (intOf i).toNat)
    case atStart => exact ⟨0, _, rfl, by omega, HS1.out, kok_none⟩
    case round =>
      obtain ⟨j, f, rfl, hj, hS2, hok⟩ := hrel
      clear HS1
      by_cases hlt : j < n
      · obtain ⟨b, o, rfl, hbb, hall⟩ := HL.out.2.2.resolve_left (by omega)
        obtain ⟨u, nm, k, A', n', c', L, bg, hact⟩ := hall j hlt
        have hu := hact.hu
        have hnm := hact.hn
        obtain ⟨hk0, hk1⟩ := bounds_i64 hact.wf
        have a0 := (hS2.bel.cell (p := ⟨b, o + j * 5, none⟩) hbb).trans hact.c0
        have a1 := (hS2.bel.cell (p := ⟨b, o + j * 5 + 1, none⟩) hbb).trans hact.c1
        have a2 := (hS2.bel.cell (p := ⟨b, o + j * 5 + 2, none⟩) hbb).trans hact.c2
        have a3 := (hS2.bel.cell (p := ⟨b, o + j * 5 + 3, none⟩) hbb).trans hact.c3
        have a4 := (hS2.bel.cell (p := ⟨b, o + j * 5 + 4, none⟩) hbb).trans hact.c4
        have hfs := fit_size hact.fit
        have hlen := hact.lines.len
        have hL := hact.lines.below hS2.bel
        have hS3 := (hS2.addl hL).alloc #[.int .u8 (u : Int), .int .u8 (nm : Int), .int .i64 k, .slice A' n' c', .bool bg] 47
        obtain ⟨W, hW⟩ : ∃ W, wr.alloc (.cells #[.int .u8 (u : Int), .int .u8 (nm : Int), .int .i64 k, .slice A' n' c', .bool bg] 47) = W := ⟨_, rfl⟩
        rw [hW] at hS3
        obtain ⟨q, hq⟩ : ∃ q, wr.heap.size = q := ⟨_, rfl⟩
        rw [hq] at hS3
        obtain ⟨x0, x1, x2, x3, x4⟩ := five hS3.i0
        have HS3 := Lib.hid hS3
        have HK := Lib.hid hok
        have HFS := Lib.hid hfs
        have HLEN := Lib.hid hlen
        clear hS3 hL hS2 hok hact hall hfs hlen HL
        have i1 : (0 : Int) ≤ (j : Int) := by omega
        have i2 : (j : Int) < (n : Int) := by omega
        by_cases h8 : 8 < n'
        · have g8 : (8 : Int) < (n' : Int) := by omega
          go_wp2_with fail
          go_ret
          exact ⟨rfl, HS3.out.bel⟩
        · have g8 : ¬ (8 : Int) < (n' : Int) := by omega
          have hsz : sizeL L ≤ 4611686018427387904 := by have := HFS.out; have := HLEN.out; omega
          by_cases h3 : 3000 < sizeL L
          · have g3 : (3000 : Int) < (sizeL L : Int) := by omega
            go_wp2_with (go_at_call 16; refine (size5_calls _ _ _ L _ HS3.out.i1 hsz).mono ?_; rintro e w5 ⟨rfl, rfl⟩)
            go_ret
            exact ⟨rfl, HS3.out.bel⟩
          · have g3 : ¬ (3000 : Int) < (sizeL L : Int) := by omega
            have hS4 := HS3.out.alloc #[.int .i64 k, .slice A' n' c'] 24
            obtain ⟨W2, hW2⟩ : ∃ W2, W.alloc (.cells #[.int .i64 k, .slice A' n' c'] 24) = W2 := ⟨_, rfl⟩
            rw [hW2] at hS4
            have hBq : B < W.heap.size := heap_lt HS3.out.reg.box
            have hqq : q < W.heap.size := heap_lt HS3.out.i0
            have hge := HS3.out.bel.size
            obtain ⟨p, hp⟩ : ∃ p, W.heap.size = p := ⟨_, rfl⟩
            rw [hp] at hS4 hBq hqq hge
            obtain ⟨W3, hW3⟩ : ∃ W3, W2.setCell ⟨p, 0, none⟩ (.int .i64 (place k 3)) = W3 := ⟨_, rfl⟩
            have hOn : Only (fun b => b = p) W2 W3 := by rw [← hW3]; exact (Only.refl (fun b => b = p) W2).setCell (p := ⟨p, 0, none⟩) (.inr rfl) _
            have hp3 : W3.heap[p]? = some (.cells #[.int .i64 (place k 3), .slice A' n' c'] 24 (0, 0)) := by
              have h1 : W2.heap[p]? = some (.cells #[.int .i64 k, .slice A' n' c'] 24 (0, 0)) := hS4.i0
              rw [← hW3]; simp [World.setCell, Array.getElem?_modify, h1]
            have hS5 := hS4.write (gs := [.cells p #[.int .i64 (place k 3), .slice A' n' c'] 24, .cells q #[.int .u8 (u : Int), .int .u8 (nm : Int), .int .i64 k, .slice A' n' c', .bool bg] 47, .lines A' n' c' L])
              hS4.i0 hge (show ¬ Foot W2 P p from (hS4.rst.fs (.cells p #[.int .i64 k, .slice A' n' c'] 24) (by simp)).2) (fun o s => by rcases o with _ | _ | o <;> simp) hOn hp3 (by omega) (by
                intro x hx
                simp only [List.mem_cons, List.not_mem_nil, or_false] at hx
                rcases hx with rfl | rfl | rfl
                · exact .inl rfl
                · exact .inr ⟨by simp, fun b ds t' e => by cases e; omega⟩
                · exact .inr ⟨by simp, fun b ds t' e => by cases e⟩)
            obtain ⟨y0, y1, y2, y3⟩ := reg_cells hS4.i0
            obtain ⟨z0, z1, z2, z3⟩ := reg_cells hp3
            obtain ⟨v0, v1, v2, v3, v4⟩ := five hS5.i1
            have HS5 := Lib.hid hS5
            have HP := Lib.hid (And.intro hBq (And.intro hqq hge))
            clear hS4 hS5 hOn hp3 hBq hqq hge
            go_upto_if 56 with (first | (go_at_call 16; refine (size5_calls _ _ _ L _ HS3.out.i1 hsz).mono ?_; rintro e w5 ⟨rfl, rfl⟩) | (go_at_call 11; refine (place_calls k 3 _ (by omega) (by omega) hk0 hk1).mono ?_; rintro e w6 ⟨rfl, rfl⟩))
            go_cut [] (fun wx => ∃ (A2 : Option Addr) (n2 c2 : Nat) (L2 : List ByteArray), sizeL L2 ≤ 268435456 ∧ St2 w wx B M f P f [.cells p #[.int .i64 (place k 3), .slice A2 n2 c2] 24, .cells q #[.int .u8 (u : Int), .int .u8 (nm : Int), .int .i64 k, .slice A' n' c', .bool bg] 47, .lines A2 n2 c2 L2])
            case first =>
              cases bg
              · go_wp2_with fail
                go_meet
                exact ⟨_, _, _, _, by omega, HS5.out⟩
              · as_aux_lemma =>
                  obtain ⟨zs, hzs⟩ : ∃ zs, Zer.ofInts (List.replicate 1500 0) = zs := ⟨_, rfl⟩
                  obtain ⟨Z, hZ⟩ : ∃ Z, madeCells #[.int .u8 0] 1500 = Z := ⟨_, rfl⟩
                  have hsize : zs.size = 1500 := by rw [← hzs, Zer.ofInts_size, List.length_replicate]
                  have hmk : ∀ w, (Instr.makeSlice 34 (.int .i64 1500) (.int .i64 1500)).run Try.prog w = .ok (.slice (some ⟨w.heap.size, 0, none⟩) 1500 1500) (w.alloc (.cells Z 5)) := fun w => by have := Zer.run_make 1500 (by omega) w; rw [hZ] at this; exact this
                  have hcat : ∀ (w : World) (g : Nat), w.heap[g]? = some (.cells Z 5 (0, 0)) → (convert 34 9 (.slice (some ⟨g, 0, none⟩) 1500 1500)).run Try.prog w = .ok (.string zs) w := fun w g h => by have := Zer.run_zeros_at (k := 1500) (w := w) (g := g) (t := 5) (fr := (0, 0)) (by rw [hZ]; exact h); rw [hzs] at this; exact this
                  have hcw : ∀ w : World, (convert 34 9 (.slice (some ⟨w.heap.size, 0, none⟩) 1500 1500)).run Try.prog (w.alloc (.cells Z 5)) = .ok (.string zs) (w.alloc (.cells Z 5)) := fun w => hcat _ _ (alloc_new _ _)
                  have hcd : ∀ w : World, (convert 34 9 (.slice (some ⟨w.heap.size, 0, none⟩) 1500 1500)).run Try.prog (w.alloc (.cells Z 5)).drew = .ok (.string zs) (w.alloc (.cells Z 5)).drew := fun w => hcat _ _ (alloc_new w _)
                  have HB2 := Lib.hid (show ∀ w : World, ((w.alloc (.cells Z 5)).alloc (.cells #[.string zs] 9)).heap[w.heap.size + 1]? = some (.cells #[.string zs] 9 (0, 0)) from fun w => by have := alloc_new (w.alloc (.cells Z 5)) (.cells #[.string zs] 9); simpa using this)
                  have HCAT := Lib.hid hcat
                  have HZS := Lib.hid hsize
                  clear hcat hsize hzs hZ
                  have hn9 : n' ≤ 1099511627776 := by omega
                  have hL9 : L.length ≤ 8 := by have := HLEN.out; omega
                  obtain ⟨hBq, hqq, hge⟩ := HP.out
                  have HGE := Lib.hid (And.intro (show B ≠ p by omega) (And.intro (show q ≠ p by omega) hge))
                  clear hBq hqq hge
                  have hplt : p < W3.heap.size := heap_lt HS5.out.i0
                  obtain ⟨zz0, zz1, zz2, zz3⟩ := reg_cells (k0 := place k 3) HS5.out.i0
                  go_wp2_with fail
                  go_region_law
                    (first
                      | (refine step_app rfl _ _ (by rfl) W3.heap.size v1 L [zs] (some ⟨w1.heap.size + 1, 0, none⟩) 1 1 (by rfl) (by rfl) (hown1.only (((Only.refl No w1).alloc _).alloc _) (fun _ _ h => h)) (lines_blk (HB2.out w1)) (by first | omega | (simp; omega)) (by first | omega | (simp; omega)) ?_; intro v2 w2 hown2 hg2; have hO2 : Only No W3 w2 := ((hO1.alloc _).alloc _).grown hg2 (fun k e => .inl (hown1.ge e)); (obtain ⟨k0, k1, k2, k3⟩ := reg_cells ((hO2.block p hplt (fun h => h)).trans HS5.out.i0)); (obtain ⟨A2, c2, rfl, hlF⟩ := hown2.lines); have HF := Lib.hid (And.intro hlF hO2); clear hown2 hlF)
                      | (refine step_app rfl _ _ (by rfl) W3.heap.size v1 L [zs] (some ⟨w1.heap.size, 0, none⟩) 1 1 (by rfl) (by rfl) (hown1.only ((Only.refl No w1).alloc _) (fun _ _ h => h)) (lines_blk (alloc_new w1 (.cells #[.string zs] 9))) (by first | omega | (simp; omega)) (by first | omega | (simp; omega)) ?_; intro v2 w2 hown2 hg2; have hO2 : Only No W3 w2 := (hO1.alloc _).grown hg2 (fun k e => .inl (hown1.ge e)); (obtain ⟨k0, k1, k2, k3⟩ := reg_cells ((hO2.block p hplt (fun h => h)).trans HS5.out.i0)); (obtain ⟨A2, c2, rfl, hlF⟩ := hown2.lines); have HF := Lib.hid (And.intro hlF hO2); clear hown2 hlF)
                      | (refine step_app rfl _ _ (by rfl) W3.heap.size v1 L [zs] (some ⟨W3.heap.size + 1, 0, none⟩) 1 1 (by rfl) (by rfl) hown1 (lines_blk hblk) (by first | omega | (simp; omega)) (by first | omega | (simp; omega)) ?_; intro v2 w2 hown2 hg2; have hO2 : Only No W3 w2 := hO1.grown hg2 (fun k e => .inl (hown1.ge e)); (obtain ⟨k0, k1, k2, k3⟩ := reg_cells ((hO2.block p hplt (fun h => h)).trans HS5.out.i0)); (obtain ⟨A2, c2, rfl, hlF⟩ := hown2.lines); have HF := Lib.hid (And.intro hlF hO2); clear hown2 hlF)
                      | (refine step_app (w := W3.drew) rfl _ _ (by rfl) W3.heap.size (.slice none 0 0) [] L A' n' c' (by rfl) (by rfl) (own_nil _ _) (HS5.out.i2.only (Only.refl No W3).drew (fun _ _ h => h.elim)) (by first | omega | (simp; omega)) (by simp) ?_; intro v1 w1 hown1 hg1; have hO1 : Only No W3 w1 := (Only.refl No W3).drew.grown hg1 (fun k e => by cases e); have hs1 := hO1.size; (obtain ⟨k0, k1, k2, k3⟩ := reg_cells ((hO1.block p hplt (fun h => h)).trans HS5.out.i0)); simp only [List.nil_append] at hown1)
                      | (refine step_app (w := (W3.alloc (.cells Z 5)).drew) rfl _ _ (by rfl) W3.heap.size (.slice none 0 0) [] L A' n' c' (by rfl) (by rfl) (own_nil _ _) (HS5.out.i2.only ((Only.refl No W3).alloc _).drew (fun _ _ h => h.elim)) (by first | omega | (simp; omega)) (by simp) ?_; intro v1 w1 hown1 hg1; have hO1 : Only No W3 w1 := ((Only.refl No W3).alloc _).drew.grown hg1 (fun k e => by cases e); have hs1 := hO1.size; have hcA := HCAT.out w1 W3.heap.size (((Only.of_grownBy hg1).block W3.heap.size (by simp) (fun e => by cases e)).trans (alloc_new W3 _)); (obtain ⟨k0, k1, k2, k3⟩ := reg_cells ((hO1.block p hplt (fun h => h)).trans HS5.out.i0)); simp only [List.nil_append] at hown1)
                      | (refine step_app (w := ((W3.alloc (.cells Z 5)).alloc (.cells #[.string zs] 9)).drew) rfl _ _ (by rfl) W3.heap.size (.slice none 0 0) [] L A' n' c' (by rfl) (by rfl) (own_nil _ _) (HS5.out.i2.only (((Only.refl No W3).alloc _).alloc _).drew (fun _ _ h => h.elim)) (by first | omega | (simp; omega)) (by first | omega | (simp; omega)) ?_; intro v1 w1 hown1 hg1; have hO1 : Only No W3 w1 := (((Only.refl No W3).alloc _).alloc _).drew.grown hg1 (fun k e => by cases e); have hs1 := hO1.size; have hblk : w1.heap[W3.heap.size + 1]? = some (.cells #[.string zs] 9 (0, 0)) := ((Only.of_grownBy hg1).block (W3.heap.size + 1) (by simp) (fun e => by cases e)).trans (HB2.out W3); (obtain ⟨k0, k1, k2, k3⟩ := reg_cells ((hO1.block p hplt (fun h => h)).trans HS5.out.i0)); simp only [List.nil_append] at hown1))
                  all_goals (go_wp2_with fail; go_meet)
                  all_goals (
                    obtain ⟨hlF, hOF⟩ := HF.out
                    rw [List.length_append] at hlF
                    obtain ⟨u1, u2, u3⟩ := HGE.out
                    exact ⟨A2, _, c2, L ++ [zs], by rw [sizeL_append, sizeL_cons, sizeL_nil, HZS.out]; omega, box_lines (HS5.out.no hOF) u1 u2 u3 hlF⟩)
            case rest =>
              obtain ⟨A2, n2, c2, L2, hsz2, hS6⟩ := hcut
              obtain ⟨k0, k1, k2, k3⟩ := reg_cells hS6.i0
              obtain ⟨t0, t1, t2, t3, t4⟩ := five hS6.i1
              have HS6 := Lib.hid hS6
              clear hS6 HS5 HS3 y0 y1 y2 y3 z0 z1 z2 z3 v0 v1 v2 v3 v4 x0 x1 x2 x3 x4
              go_upto_region 16 with (fail)
              go_cut [10] (fun s10 wx => wx = wc ∧ ∃ c : Nat, s10 = .int .u8 (c : Int) ∧ c < 256)
              case first =>
                have h10 : (nm : Int) % 10 = 0 ∨ (nm : Int) % 10 = 1 ∨ (nm : Int) % 10 = 2 ∨ (nm : Int) % 10 = 3 ∨ (nm : Int) % 10 = 4 ∨ (nm : Int) % 10 = 5 ∨ (nm : Int) % 10 = 6 ∨ (nm : Int) % 10 = 7 ∨ (nm : Int) % 10 = 8 ∨ (nm : Int) % 10 = 9 := by omega
                rcases h10 with h | h | h | h | h | h | h | h | h | h
                all_goals (go_wp2_with fail; go_meet)
                · exact ⟨rfl, 34, rfl, by omega⟩
                · exact ⟨rfl, 97, rfl, by omega⟩
                · exact ⟨rfl, 98, rfl, by omega⟩
                · exact ⟨rfl, 65, rfl, by omega⟩
                · exact ⟨rfl, 66, rfl, by omega⟩
                · exact ⟨rfl, 48, rfl, by omega⟩
                · exact ⟨rfl, 57, rfl, by omega⟩
                · exact ⟨rfl, 45, rfl, by omega⟩
                · exact ⟨rfl, 95, rfl, by omega⟩
                · exact ⟨rfl, 33, rfl, by omega⟩
              case rest =>

                obtain ⟨rfl, c, rfl, hc⟩ := hcut
                go_upto_if 71 with (fail)
                go_cut [10] (fun s10 wx => wx = wc ∧ ∃ c : Nat, s10 = .int .u8 (c : Int) ∧ c < 256)
                case first =>
                  by_cases h200 : 200 ≤ nm
                  · have g200 : (200 : Int) ≤ (nm : Int) := by omega
                    go_wp2_with fail
                    go_meet
                    exact ⟨rfl, nm, rfl, hnm⟩
                  · have g200 : ¬ (200 : Int) ≤ (nm : Int) := by omega
                    go_wp2_with fail
                    go_meet
                    exact ⟨rfl, c, rfl, hc⟩
                case rest =>
                  obtain ⟨rfl, c, rfl, hc⟩ := hcut
                  go_upto_if 77 with (fail)
                  go_cut [10] (fun s10 wx => wx = wc ∧ ∃ c : Nat, s10 = .int .u8 (c : Int) ∧ c < 256)
                  case first =>
                    by_cases h15 : (nm : Int) % 16 = 15
                    · go_wp2_with fail
                      go_meet
                      exact ⟨rfl, 0, rfl, by omega⟩
                    · go_wp2_with fail
                      go_meet
                      exact ⟨rfl, c, rfl, hc⟩
                  case rest =>
                    obtain ⟨rfl, c, rfl, hc⟩ := hcut
                    have HD := Lib.hid (HS6.out.no ((Only.refl No _).drew))
                    go_upto_block 2 with (fail)
                    go_cut [11, 12, 80] (fun s11 s12 s80 wx => ∃ (v : Nat) (f' : Nat → Option Reg), s11 = .int .i64 (v : Int) ∧ s12 = .int .i64 (v : Int) ∧ St2 w wx B M f' P f' [] ∧ KOk f')
                    case first =>
                      rcases (show (u : Int) % 4 = 0 ∨ (u : Int) % 4 = 3 ∨ (u : Int) % 4 = 1 ∨ (u : Int) % 4 = 2 by omega) with h4 | h4 | h4 | h4

                      · as_aux_lemma =>
                          go_upto_region 25 with (fail)
                          go_region_with (first
                            | (go_at_call 21; refine (pyank_st2 c (place k 3, L2) _ HS7.out HS7.out.i2 hc hsz2).mono ?_; rintro e w8 ⟨rfl, hS8⟩; have HS8 := Lib.hid hS8; clear hS8)
                            | (go_at_call 22; refine (dyank_st2 c (place k 3, L2) _ HS7.out HS7.out.i2 hc hsz2 HS6.out.bd).mono ?_; rintro e w8 ⟨rfl, hS8⟩; have HS8 := Lib.hid hS8; clear hS8)
                            | (go_at_call 21; refine (pyank_st2 c (place k 3, L2) _ HD.out HD.out.i2 hc hsz2).mono ?_; rintro e w7 ⟨rfl, hS7⟩; have HS7 := Lib.hid hS7; (obtain ⟨m0, m1, _, _⟩ := reg_cells hS7.i0); clear hS7)
                            | (go_at_call 22; refine (dyank_st2 c (place k 3, L2) _ HD.out HD.out.i2 hc hsz2 HS6.out.bd).mono ?_; rintro e w7 ⟨rfl, hS7⟩; have HS7 := Lib.hid hS7; (obtain ⟨m0, m1, _, _⟩ := reg_cells hS7.i0); clear hS7))
                          all_goals (go_wp2_with fail; go_meet)
                          all_goals exact ⟨setE f c (place k 3, L2), _, rfl, rfl, HS8.out.sel (by simp), kok_set HK.out (kok_upd HK.out rfl _) c _⟩
                      · as_aux_lemma =>
                          go_upto_region 27 with (fail)
                          go_region_with (first
                            | (go_at_call 23; refine (pput_st2 c (place k 3, L2) _ HS7.out HS7.out.i2 hc hsz2).mono ?_; rintro e w8 ⟨rfl, hS8⟩; have HS8 := Lib.hid hS8; clear hS8)
                            | (go_at_call 24; refine (dput_st2 c (place k 3, L2) _ HS7.out HS7.out.i2 hc hsz2 HS6.out.bd).mono ?_; rintro e w8 ⟨rfl, hS8⟩; have HS8 := Lib.hid hS8; clear hS8)
                            | (go_at_call 23; refine (pput_st2 c (place k 3, L2) _ HD.out HD.out.i2 hc hsz2).mono ?_; rintro e w7 ⟨rfl, hS7⟩; have HS7 := Lib.hid hS7; (obtain ⟨m0, m1, _, _⟩ := reg_cells hS7.i0); clear hS7)
                            | (go_at_call 24; refine (dput_st2 c (place k 3, L2) _ HD.out HD.out.i2 hc hsz2 HS6.out.bd).mono ?_; rintro e w7 ⟨rfl, hS7⟩; have HS7 := Lib.hid hS7; (obtain ⟨m0, m1, _, _⟩ := reg_cells hS7.i0); clear hS7))
                          all_goals (go_wp2_with fail; go_meet)
                          all_goals exact ⟨putE f c (place k 3, L2), _, rfl, rfl, HS8.out.sel (by simp), kok_put HK.out c _⟩
                      · as_aux_lemma =>
                          go_upto_region 23 with (fail)
                          go_region_with (first
                            | (go_at_call 18; refine (pcut_st2 c (place k 3, L2) _ HS7.out HS7.out.i2 hc hsz2).mono ?_; rintro e w8 ⟨rfl, hS8⟩; have HS8 := Lib.hid hS8; clear hS8)
                            | (go_at_call 25; refine (dcut_st2 c (place k 3, L2) _ HS7.out HS7.out.i2 hc hsz2 HS6.out.bd).mono ?_; rintro e w8 ⟨rfl, hS8⟩; have HS8 := Lib.hid hS8; clear hS8)
                            | (go_at_call 18; refine (pcut_st2 c (place k 3, L2) _ HD.out HD.out.i2 hc hsz2).mono ?_; rintro e w7 ⟨rfl, hS7⟩; have HS7 := Lib.hid hS7; (obtain ⟨m0, m1, _, _⟩ := reg_cells hS7.i0); clear hS7)
                            | (go_at_call 25; refine (dcut_st2 c (place k 3, L2) _ HD.out HD.out.i2 hc hsz2 HS6.out.bd).mono ?_; rintro e w7 ⟨rfl, hS7⟩; have HS7 := Lib.hid hS7; (obtain ⟨m0, m1, _, _⟩ := reg_cells hS7.i0); clear hS7))
                          all_goals (go_wp2_with fail; go_meet)
                          all_goals exact ⟨setE f c (place k 3, L2), _, rfl, rfl, HS8.out.sel (by simp), kok_set HK.out (kok_cut HK.out _) c _⟩
                      · as_aux_lemma =>
                          go_upto_region 23 with (fail)
                          go_region_with (first
                            | (go_at_call 18; refine (pcut_st2 c (place k 3, L2) _ HS7.out HS7.out.i2 hc hsz2).mono ?_; rintro e w8 ⟨rfl, hS8⟩; have HS8 := Lib.hid hS8; clear hS8)
                            | (go_at_call 25; refine (dcut_st2 c (place k 3, L2) _ HS7.out HS7.out.i2 hc hsz2 HS6.out.bd).mono ?_; rintro e w8 ⟨rfl, hS8⟩; have HS8 := Lib.hid hS8; clear hS8)
                            | (go_at_call 18; refine (pcut_st2 c (place k 3, L2) _ HD.out HD.out.i2 hc hsz2).mono ?_; rintro e w7 ⟨rfl, hS7⟩; have HS7 := Lib.hid hS7; (obtain ⟨m0, m1, _, _⟩ := reg_cells hS7.i0); clear hS7)
                            | (go_at_call 25; refine (dcut_st2 c (place k 3, L2) _ HD.out HD.out.i2 hc hsz2 HS6.out.bd).mono ?_; rintro e w7 ⟨rfl, hS7⟩; have HS7 := Lib.hid hS7; (obtain ⟨m0, m1, _, _⟩ := reg_cells hS7.i0); clear hS7))
                          all_goals (go_wp2_with fail; go_meet)
                          all_goals exact ⟨setE f c (place k 3, L2), _, rfl, rfl, HS8.out.sel (by simp), kok_set HK.out (kok_cut HK.out _) c _⟩
                    case rest =>
                      obtain ⟨v, f', rfl, rfl, hT6, hkt⟩ := hcut
                      have HT6 := Lib.hid (hT6.sel (gs := []) (by simp))
                      have HKT := Lib.hid hkt
                      clear hT6 hkt
                      have hvv : ((v : Nat) : Int) = ((v : Nat) : Int) := rfl
                      clear hvv
                      go_wp2_with (go_at_call 26; refine (same_calls w.heap.size B M P f' _ HT6.out.reg HT6.out.bd HT6.out.rst.r HKT.out).mono ?_; rintro e w7 ⟨rfl, hO7⟩; have HS7 := Lib.hid ((HT6.out.no hO7).alloc #[.int .u8 (c : Int), .int .u8 (name : Int), .int .u8 0, .int .u8 65] 5); clear hO7)
                      go_loopw [122, 14, 15, 16, 17, 18] (fun i _ _ _ _ _ wi => ∃ m : Nat, i = .int .i64 (m : Int) ∧ m ≤ 4 ∧ St2 w wi B M f' P f' [.cells w7.heap.size #[.int .u8 (c : Int), .int .u8 (name : Int), .int .u8 0, .int .u8 65] 5]) (fun i _ _ _ _ _ _ => 4 - (intOf i).toNat)
                      case atStart => exact ⟨0, rfl, by omega, HS7.out⟩
                      case round =>
                        obtain ⟨m, rfl, hm, hS8⟩ := hrel
                        by_cases hm4 : m < 4
                        · as_aux_lemma =>
                            obtain ⟨x, hx, hx256⟩ : ∃ x : Nat, (#[Value.int .u8 (c : Int), .int .u8 (name : Int), .int .u8 0, .int .u8 65] : Array Value)[m]? = some (.int .u8 (x : Int)) ∧ x < 256 := by
                              rcases (show m = 0 ∨ m = 1 ∨ m = 2 ∨ m = 3 by omega) with rfl | rfl | rfl | rfl
                              · exact ⟨c, rfl, hc⟩
                              · exact ⟨name, rfl, hname⟩
                              · exact ⟨0, rfl, by omega⟩
                              · exact ⟨65, rfl, by omega⟩
                            have hcell : wr.cell? ⟨w7.heap.size, m, none⟩ = some (.int .u8 (x : Int)) := (Joins.cell_of_block hS8.i0 m).trans hx
                            obtain ⟨R, hR⟩ : ∃ R, regOr (f' (Rg.keyOf x)) = R := ⟨_, rfl⟩
                            obtain ⟨bb, hbb⟩ : ∃ bb, (f' (Rg.keyOf x)).isSome = bb := ⟨_, rfl⟩
                            have hPG : ∀ w' fs, St2 w w' B M f' P f' fs → Calls Try.prog 19 #[.pointer (some ⟨B, 0, none⟩), .int .u8 (x : Int)] w' fun e w'' => ∃ A m c, e = .returned (.tuple #[.agg #[.int .i64 R.1, .slice A m c], .bool bb]) ∧ St2 w w'' B M f' P f' (.lines A m c R.2 :: fs) := fun w' fs h => by have := pget_st2 x w' h hx256; rw [hR, hbb] at this; exact this
                            have hDG : ∀ w' fs, St2 w w' B M f' P f' fs → Calls Try.prog 27 #[.pointer (some ⟨P, 0, none⟩), .int .u8 (x : Int)] w' fun e w'' => ∃ A m c, e = .returned (.tuple #[.agg #[.int .i64 R.1, .slice A m c], .bool bb]) ∧ St2 w w'' B M f' P f' (.lines A m c R.2 :: fs) := fun w' fs h => by have := dget_st2 x w' h hx256; rw [hR, hbb] at this; exact this
                            have HPG := Lib.hid hPG
                            have HDG := Lib.hid hDG
                            have HS8 := Lib.hid hS8
                            clear hS8 hx hR hbb hPG hDG
                            have im : (0 : Int) ≤ (m : Int) := by omega
                            have hbn : (bb != bb) = false := by cases bb <;> rfl
                            go_wp2_with fail
                            refine (HPG.out _ _ HS8.out).mono ?_
                            rintro e w9 ⟨A9, m9, c9, rfl, hS9⟩
                            have HS9 := Lib.hid (hS9.alloc #[.int .i64 R.1, .slice A9 m9 c9] 24)
                            clear hS9
                            go_wp2_with fail
                            refine (HDG.out _ _ HS9.out).mono ?_
                            rintro e w10 ⟨A10, m10, c10, rfl, hS10⟩
                            have hS11 := hS10.alloc #[.int .i64 R.1, .slice A10 m10 c10] 24
                            obtain ⟨W11, hW11⟩ : ∃ W11, w10.alloc (.cells #[.int .i64 R.1, .slice A10 m10 c10] 24) = W11 := ⟨_, rfl⟩
                            rw [hW11] at hS11
                            obtain ⟨r0, r1, _, _⟩ := reg_cells hS11.i0
                            obtain ⟨r2, r3, _, _⟩ := reg_cells hS11.i2
                            have HS11 := Lib.hid hS11
                            clear hS11 hS10
                            go_wp2_with fail
                            refine (reg_same _ _ R _ ⟨A9, m9, c9, rfl, HS11.out.i3⟩ ⟨A10, m10, c10, rfl, HS11.out.i1⟩).mono ?_
                            rintro e w12 ⟨rfl, hO12⟩
                            have HS12 := Lib.hid ((HS11.out.no hO12).sel (gs := [.cells w7.heap.size #[.int .u8 (c : Int), .int .u8 (name : Int), .int .u8 0, .int .u8 65] 5]) (by simp))
                            clear hO12 r0 r1 r2 r3 hcell hW11
                            go_wp2_with fail
                            go_roundw
                            case rel => exact ⟨m + 1, by first | rfl | (simp; done) | (simp; omega), by omega, HS12.out⟩
                            case measure => first | (simp [intOf]; done) | (simp [intOf]; omega)
                        · as_aux_lemma =>
                            have g4 : ¬ ((m : Nat) : Int) < 4 := by omega
                            have HS8 := Lib.hid hS8
                            clear hS8
                            go_wp2_with fail
                            go_roundw
                            case rel => exact ⟨j + 1, f', by first | rfl | (simp; done) | (simp; omega), by omega, HS8.out.sel (by simp), HKT.out⟩
                            case measure => first | (simp [intOf]; done) | (simp [intOf]; omega)
      · obtain rfl : j = n := by omega
        have HB := Lib.hid hS2.bel
        clear hS2 hok HL
        go_wp2_with fail
        go_ret
        exact ⟨rfl, HB.out⟩

theorem walk_any (w : World) {A : Option Addr} {n c : Nat} (hr : Script w A n c) (a : Int) (ha : (Lit.int .u8 a).wf = true) :
    Calls Try.prog 5 #[.slice A n c, .int .u8 a] w fun e w' => e = .returned (.bool true) ∧ Below w.heap.size w w' := by
  obtain ⟨h1, h2⟩ := bounds_u8 ha
  have := law_any A n c a.toNat w hr (by omega)
  rw [Int.toNat_of_nonneg h1] at this
  exact this

open Go.ChangeShapes Go.WideShapes Go.ChangeAt
open Go.ChangeMaps (open_string shut_string)
theorem own : ownKnob Try.prog.godebug = none := by kernel_rfl
theorem laidOut : laidOutB Try.prog = true := by kernel_rfl
set_option maxRecDepth 100000 in
theorem lifted (os : Os) (started : os.Started) (H : Type) (enc : TypeId × Value → H) :
    ReturnsInHanded {} Try.checked os 5 .any (Rows.regsPlaySpec.pre6 enc Try.prog Try.f5 Rows.regsPlayRow.domain false) (Rows.regsPlaySpec.post enc Try.prog Try.f5 false true false false) := by
  refine returnsInHanded_of_change_sized (C := Try.checked) own started (by kernel_rfl) Try.func5
    (ChangeSpec.witness6 (enc := enc) (C := Try.checked) false ⟨#[], #[.slice none 0 0, .int .u8 0], []⟩ 8 (by kernel_rfl) (by kernel_rfl) (by kernel_rfl) (by kernel_rfl)) ?_
  intro W base args ds gs before hval0 hW hcnd hsz0 _
  have hsz : (DataW.weightsEach Try.prog (Try.f5.params.toList ++ Rows.regsPlaySpec.plain.varTypes Try.prog) (ds ++ gs)).all (· ≤ reachBytes) = true := hsz0
  have hval : ∀ (j : Nat) t v, Try.f5.params[j]? = some t → args[j]? = some v → Value.okWide Try.prog W .any base t v := hval0
  have hW' := hW
  obtain ⟨p, q, hA0, hV, rfl, hfz, hnd⟩ := hW
  have hA : DataW.TrodAll enc Try.prog W 0 (fun _ => true) true Try.f5.params.toList args.toList ds p := hA0
  rw [Try.params5] at hA hval hsz
  obtain ⟨v0, vs0, d0, ds0, p0, q0, hargs, rfl, rfl, h0, r0⟩ := trodAll_cons hA
  obtain ⟨v1, vs1, d1, ds1, p1, q1, rfl, rfl, rfl, h1, r1⟩ := trodAll_cons r0
  obtain ⟨rfl, rfl, rfl⟩ := trodAll_nil r1
  obtain rfl : args = #[v0, v1] := by cases args; simp_all
  obtain ⟨rfl, rfl⟩ := trodVars_none hV
  obtain ⟨A0, n0, c0, rfl⟩ := okWide_slice Try.underlying41 (hval 0 41 v0 rfl rfl)
  have k0 := h0
  have lt0 : ∀ x ∈ p0, x.block < W.heap.size := by obtain ⟨m, hm⟩ := k0; exact DataW.trod_lt m _ _ _ hm
  have hr0 := acts_data h0 (fun s hs => by have h9 := List.all_eq_true.1 hsz _ (DataW.weights_mem_each (j := 0) rfl rfl _ hs); simpa using h9)
  obtain ⟨a1, rfl, rfl, rfl, w1⟩ := open_int Try.underlying5 (hval 1 5 v1 rfl rfl) h1
  clear hA0 hval0 hsz0
  refine (walk_any W hr0 _ w1).mono fun e W' ⟨he, bel⟩ => ?_
  subst he
  exact ⟨_, rfl, _, _, _, [], _, [], hW', trodAll_mk1 (shut_bool Try.underlying4 _), (trodAll_cons_mk (Below.trod laidOut (by kernel_rfl) (of_decide_eq_true (by kernel_rfl)) k0 bel lt0) (trodAll_cons_mk (shut_int Try.underlying5 w1) trodAll_mk0)), rfl, bel.frame _, fun h => by cases h⟩
theorem over : Rows.regsPlayRow.holds Try.pinned (OpenSpec.ofChange Rows.regsPlaySpec) :=
  OpenClaim.holds_of_wide 5 Try.f5 rfl rfl rfl rfl rfl rfl rfl ⟨rfl, rfl, rfl, rfl, rfl⟩ rfl rfl rfl rfl rfl (by kernel_rfl) Try.func5 (by kernel_rfl)
    (of_decide_eq_true (by kernel_rfl)) (by unfold Func.isWrapper; first | (rw [if_pos (by decide +kernel)]; kernel_rfl) | (rw [if_neg (by decide +kernel)]; exact ⟨rfl, rfl⟩))
    (fun os started H enc _ => lifted os started H enc)
end Go.Proofs.Ytgdlplkeafeblaa.regsPlay
namespace Go.Proofs.Ytgdlplkeafeblaa
theorem regsPlay_holds : Rows.RegsPlaySaid := regsPlay.over
#print axioms regsPlay_holds
end Go.Proofs.Ytgdlplkeafeblaa
