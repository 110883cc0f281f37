/- MarksPlay: any script of marks and changes comes to just the document's marks; proved for every input, under no condition. -/
import Derived.Test.YtlmghmndojfjpaaRows
import Derived.Test.YtlmghmndojfjpaaMarksKnown
import Derived.Test.YtlmghmndojfjpaaMAdj
import Derived.Test.YtlmghmndojfjpaaMActs
import Derived.Test.YtlmghmndojfjpaaPlace
import Derived.Deep.DeepCutAuto
import Derived.Deep.RegionLaw
import Derived.Deep.RegionHeld3
import Derived.Deep.DrawnRows
import Derived.Deep.CutBlock
import Derived.WalkKit
import Derived.ProofKit
import Derived.OpenShut
import Derived.ChangeOld
import Derived.SizedLaws
namespace Go.Proofs.Ytlmghmndojfjpaa.marksPlay
open Go.RowKit Go.Shelf Go.Proofs.Ytlmghmndojfjpaa.MapRaw Go.Proofs.Ytlmghmndojfjpaa.Frm Go.Proofs.Ytlmghmndojfjpaa.Mk Go.Proofs.Ytlmghmndojfjpaa.Mf Go.Proofs.Ytlmghmndojfjpaa.Arg Go.Proofs.Ytlmghmndojfjpaa.Keys Go.Proofs.Ytlmghmndojfjpaa.Shf
set_option linter.unusedVariables false
set_option linter.unusedSimpArgs false
attribute [local go_sem ↓] Go.wp_at_zero Go.wp_at_succ

def Oks (f : Nat → Option (Int × Int)) : Prop := ∀ j, (f j).isSome = true → okName j = true
theorem oks_set {f : Nat → Option (Int × Int)} (h : Oks f) (k : Nat) (p : Int × Int) : Oks (setM f k p) := by
  unfold setM
  split
  · rename_i hk
    intro j hj
    unfold updM at hj
    split at hj
    · rename_i e; rw [e]; exact hk
    · exact h j hj
  · exact h
theorem oks_adj {f : Nat → Option (Int × Int)} (h : Oks f) (a o m : Int) : Oks (adj f a o m) := by
  intro j hj
  apply h j
  unfold adj at hj
  cases hf : f j with
  | none => rw [hf] at hj; cases hj
  | some p => rfl
theorem oks_dom {f : Nat → Option (Int × Int)} (h : Oks f) (k : Nat) (hk : 256 ≤ k) : f k = none := by
  cases hf : f k with
  | none => rfl
  | some p =>
    have := h k (by rw [hf]; rfl)
    simp [okName] at this
    omega
/-- Lines go no farther than this in j steps. -/
def Near (f : Nat → Option (Int × Int)) (j : Nat) : Prop := ∀ k p, f k = some p → -(60 + 16 * (j : Int)) ≤ p.1 ∧ p.1 ≤ 60 + 16 * (j : Int)
theorem near_set {f : Nat → Option (Int × Int)} {j : Nat} (h : Near f j) (k : Nat) {p : Int × Int} (hp : -60 ≤ p.1 ∧ p.1 ≤ 60) : Near (setM f k p) (j + 1) := by
  intro i q hq
  unfold setM at hq
  split at hq
  · unfold updM at hq
    split at hq
    · cases hq; omega
    · have := h i q hq; omega
  · have := h i q hq; omega
theorem shift_near {l a o n K : Int} (hl : -K ≤ l ∧ l ≤ K) (hK : 0 ≤ K) (ho : o ≤ 8) (hn : n ≤ 8) : -(K + 16) ≤ (shift l a o n).1 ∧ (shift l a o n).1 ≤ K + 16 := by
  unfold shift
  split
  · simp only; omega
  · rename_i h
    simp only [Bool.or_eq_true, not_or, Bool.not_eq_true, decide_eq_true_eq] at h
    obtain ⟨⟨⟨h1, h2⟩, h3⟩, h4⟩ := h
    have := wrongB_false h2
    have := wrongB_false h3
    repeat' split
    all_goals (simp only; omega)
theorem near_adj {f : Nat → Option (Int × Int)} {j : Nat} (h : Near f j) {a o m : Int} (ho : o ≤ 8) (hm : m ≤ 8) : Near (adj f a o m) (j + 1) := by
  intro i q hq
  unfold adj at hq
  cases hf : f i with
  | none => rw [hf] at hq; cases hq
  | some p =>
    rw [hf] at hq
    have hp := h i p hf
    simp only [Option.bind_some, adj1] at hq
    split at hq
    · cases hq
      have := shift_near (l := p.1) (a := a) (o := o) (n := m) (K := 60 + 16 * (j : Int)) ⟨by omega, by omega⟩ (by omega) ho hm
      simp only
      omega
    · cases hq
theorem near_bd {f : Nat → Option (Int × Int)} {j : Nat} (h : Near f j) (hj : j ≤ 60) (k : Nat) (p : Int × Int) (hk : f k = some p) : -1099511627776 ≤ p.1 ∧ p.1 ≤ 1099511627776 := by
  have := h k p hk
  omega

def Script (w : World) (A : Option Addr) (n c : Nat) : Prop := n ≤ c ∧ c ≤ maxLen ∧ (n = 0 ∨ ∃ b o, A = some ⟨b, o, none⟩ ∧ b < w.heap.size ∧ ∀ j, j < n → ∃ u nm l cc a ol nw, ActIs w b (o + j * 7) u nm l cc a ol nw)

theorem seven {w : World} {p : Nat} {a b c d e f g : Value} {t : TypeId} (h : w.heap[p]? = some (.cells #[a, b, c, d, e, f, g] t (0, 0))) : w.cell? ⟨p, 0, none⟩ = some a ∧ w.cell? ⟨p, 1, none⟩ = some b ∧ w.cell? ⟨p, 2, none⟩ = some c ∧ w.cell? ⟨p, 3, none⟩ = some d ∧ w.cell? ⟨p, 4, none⟩ = some e ∧ w.cell? ⟨p, 5, none⟩ = some f ∧ w.cell? ⟨p, 6, none⟩ = some g := by
  simp [World.cell?, h]

set_option maxHeartbeats 8000000 in
set_option maxRecDepth 100000 in
theorem law_any (A : Option Addr) (n c : Nat) (name : Nat) (w : World) (hl : Script w A n c) (hname : name < 256) :
    Calls Try.prog 4 #[.slice A n c, .int .u8 (name : Int)] w fun e w' => e = .returned (.bool true) ∧ Below w.heap.size w w' := by
  have HL := Lib.hid hl
  clear hl
  by_cases hn : 50 < n
  · have g : (50 : Int) < (n : Int) := by omega
    go_enter Try.func4, Try.ntmps4
    go_wp2_with (go_at_call 8; refine (Mk.known_calls _).mono ?_; rintro e w1 ⟨rfl, hb⟩)
    go_ret
    exact ⟨rfl, hb⟩
  · have g : ¬ (50 : Int) < (n : Int) := by omega
    go_enter Try.func4, Try.ntmps4
    go_wp2_with (go_at_call 8; refine (Mk.known_calls _).mono ?_; rintro e w1 ⟨rfl, hb⟩)
    refine (start_m2 hb).mono ?_
    rintro e w2 ⟨B, M, rfl, hS⟩
    have HS := Lib.hid hS
    clear hS hb
    go_wp2_with fail
    go_loopw [7, 8, 9, 10, 12, 13, 14, 15, 16] (fun i _ _ _ _ _ _ _ _ wr => ∃ (j : Nat) (f : Nat → Option (Int × Int)), i = .int .i64 (j : Int) ∧ j ≤ n ∧ M2 w wr B M f w2.heap.size f [] ∧ Oks f ∧ Near f j) (fun i _ _ _ _ _ _ _ _ _ => n - (intOf i).toNat)
    case atStart => exact ⟨0, _, rfl, by omega, HS.out, (fun j h => by cases h), (fun k p h => by cases h)⟩
    case round =>
      obtain ⟨j, f, rfl, hj, hS, hok, hnr⟩ := hrel
      clear HS
      by_cases hlt : j < n
      · obtain ⟨b, o, rfl, hbb, hall⟩ := HL.out.2.2.resolve_left (by omega)
        obtain ⟨u, nm, pl, pc, at_, ol, nw, hact⟩ := hall j hlt
        have hu := hact.hu
        have hnm := hact.hn
        have a0 := (hS.bel.cell (p := ⟨b, o + j * 7, none⟩) hbb).trans hact.c0
        have a1 := (hS.bel.cell (p := ⟨b, o + j * 7 + 1, none⟩) hbb).trans hact.c1
        have a2 := (hS.bel.cell (p := ⟨b, o + j * 7 + 2, none⟩) hbb).trans hact.c2
        have a3 := (hS.bel.cell (p := ⟨b, o + j * 7 + 3, none⟩) hbb).trans hact.c3
        have a4 := (hS.bel.cell (p := ⟨b, o + j * 7 + 4, none⟩) hbb).trans hact.c4
        have a5 := (hS.bel.cell (p := ⟨b, o + j * 7 + 5, none⟩) hbb).trans hact.c5
        have a6 := (hS.bel.cell (p := ⟨b, o + j * 7 + 6, none⟩) hbb).trans hact.c6
        have hS3 := hS.alloc #[.int .u8 (u : Int), .int .u8 (nm : Int), .int .i64 pl, .int .i64 pc, .int .i64 at_, .int .i64 ol, .int .i64 nw] 39
        obtain ⟨W, hW⟩ : ∃ W, wr.alloc (.cells #[.int .u8 (u : Int), .int .u8 (nm : Int), .int .i64 pl, .int .i64 pc, .int .i64 at_, .int .i64 ol, .int .i64 nw] 39) = W := ⟨_, rfl⟩
        rw [hW] at hS3
        obtain ⟨x0, x1, x2, x3, x4, x5, x6⟩ := seven hS3.i0
        have HS3 := Lib.hid hS3
        have HK := Lib.hid (And.intro hok hnr)
        clear hS3 hS hok hnr hact hall HL
        have i1 : (0 : Int) ≤ (j : Int) := by omega
        have i2 : (j : Int) < (n : Int) := by omega
        go_upto_if 39 with (fail)
        go_cut [9, 39] (fun s9 s39 wx => W = wx ∧ ∃ c : Nat, s9 = .int .u8 (c : Int) ∧ c < 256)
        case first =>
          by_cases h4 : 0 < (nm : Int) % 4
          · go_wp2_with fail
            go_meet
            exact ⟨rfl, 96 + nm % 27, by first | rfl | (simp; done) | (simp; omega), by omega⟩
          · go_wp2_with fail
            go_meet
            exact ⟨rfl, nm, rfl, hnm⟩
        case rest =>
          obtain ⟨rfl, c, rfl, hc⟩ := hcut
          obtain ⟨z, hz⟩ : ∃ z, pl.tmod 60 = z := ⟨_, rfl⟩
          have hzb : -60 ≤ z ∧ z ≤ 60 := by have := tmod_bd pl (n := 60) (by omega); omega
          obtain ⟨za, hza⟩ : ∃ z, at_.tmod 30 = z := ⟨_, rfl⟩
          obtain ⟨zo, hzo⟩ : ∃ z, ol.tmod 8 = z := ⟨_, rfl⟩
          obtain ⟨zn, hzn⟩ : ∃ z, nw.tmod 8 = z := ⟨_, rfl⟩
          have hzo8 : zo ≤ 8 := by have := tmod_bd ol (n := 8) (by omega); omega
          have hzn8 : zn ≤ 8 := by have := tmod_bd nw (n := 8) (by omega); omega
          have hS4 := HS3.out.alloc #[.int .i64 z, .int .i64 pc] 37
          obtain ⟨W2, hW2⟩ : ∃ W2, W.alloc (.cells #[.int .i64 z, .int .i64 pc] 37) = W2 := ⟨_, rfl⟩
          rw [hW2] at hS4
          obtain ⟨y0, y1, _, _⟩ := two_cells hS4.i0
          obtain ⟨v0, v1, v2, v3, v4, v5, v6⟩ := seven hS4.i1
          have HS4 := Lib.hid hS4
          have HB := Lib.hid (And.intro hzb (And.intro hzo8 hzn8))
          clear hS4 hzb hzo8 hzn8
          go_upto_if 54 with (fail)
          clear x0 x1 x2 x3 x4 x5 x6
          go_cut [53, 54] (fun s53 s54 wx => ∃ f' : Nat → Option (Int × Int), M2 w wx B M f' w2.heap.size f' [] ∧ Oks f' ∧ Near f' (j + 1))
          case first =>
            by_cases h3 : (u : Int) % 3 < 2
            · as_aux_lemma =>
                obtain ⟨bb, hbq⟩ : ∃ bb, okName c = bb := ⟨_, rfl⟩
                have hPS : ∀ w' f g fs, M2 w w' B M f w2.heap.size g fs → Calls Try.prog 12 #[.pointer (some ⟨B, 0, none⟩), .int .u8 (c : Int), .agg #[.int .i64 z, .int .i64 pc]] w' fun e w'' => e = .returned (.bool bb) ∧ M2 w w'' B M (setM f c (z, pc)) w2.heap.size g fs := fun w' f g fs h => by have := pset_m2 c (z, pc) w' h hc; rw [hbq] at this; exact this
                have hDS : ∀ w' f g fs, M2 w w' B M f w2.heap.size g fs → Calls Try.prog 13 #[.pointer (some ⟨w2.heap.size, 0, none⟩), .int .u8 (c : Int), .agg #[.int .i64 z, .int .i64 pc]] w' fun e w'' => e = .returned (.bool bb) ∧ M2 w w'' B M f w2.heap.size (setM g c (z, pc)) fs := fun w' f g fs h => by have := dset_m2 c (z, pc) w' h hc; rw [hbq] at this; exact this
                have hbn : (bb != bb) = false := by cases bb <;> rfl
                have HPS := Lib.hid hPS
                have HDS := Lib.hid hDS
                have HD := Lib.hid (HS4.out.no ((Only.refl No W2).drew))
                clear hPS hDS hbq
                go_upto_region 15 with (fail)
                go_region_with (first
                  | (go_at_call 12; refine (HPS.out _ _ _ _ HS7.out).mono ?_; rintro e w8 ⟨rfl, hS8⟩; have HS8 := Lib.hid hS8; clear hS8)
                  | (go_at_call 13; refine (HDS.out _ _ _ _ HS7.out).mono ?_; rintro e w8 ⟨rfl, hS8⟩; have HS8 := Lib.hid hS8; clear hS8)
                  | (go_at_call 12; refine (HPS.out _ _ _ _ HD.out).mono ?_; rintro e w7 ⟨rfl, hS7⟩; have HS7 := Lib.hid hS7; (obtain ⟨m0, m1, _, _⟩ := two_cells hS7.i0); clear hS7)
                  | (go_at_call 13; refine (HDS.out _ _ _ _ HD.out).mono ?_; rintro e w7 ⟨rfl, hS7⟩; have HS7 := Lib.hid hS7; (obtain ⟨m0, m1, _, _⟩ := two_cells hS7.i0); clear hS7))
                all_goals (go_wp2_with fail; go_meet)
                all_goals exact ⟨setM f c (z, pc), HS8.out.sel (by simp), oks_set HK.out.1 _ _, near_set HK.out.2 _ HB.out.1⟩
            · as_aux_lemma =>
                have hj60 : j ≤ 60 := by omega
                go_wp2_with fail
                refine (padj_m2 za zo zn _ HS4.out (oks_dom HK.out.1) (near_bd HK.out.2 hj60)).mono ?_
                rintro e w7 ⟨rfl, hS7⟩
                clear v0 v1 v2 v3 v4 v5 v6
                obtain ⟨v0, v1, v2, v3, v4, v5, v6⟩ := seven hS7.i1
                have HS7 := Lib.hid hS7
                clear hS7
                go_wp2_with fail
                refine (dadj_m2 za zo zn _ HS7.out (near_bd HK.out.2 hj60)).mono ?_
                rintro e w8 ⟨rfl, hS8⟩
                have HS8 := Lib.hid hS8
                clear hS8
                go_wp2_with fail
                go_meet
                exact ⟨adj f za zo zn, HS8.out.sel (by simp), oks_adj HK.out.1 _ _ _, near_adj HK.out.2 HB.out.2.1 HB.out.2.2⟩
          case rest =>
            obtain ⟨f', hS5, hok', hnr'⟩ := hcut
            have HS5 := Lib.hid (hS5.alloc #[.int .u8 (c : Int), .int .u8 (name : Int), .int .u8 96, .int .u8 97] 5)
            have HK5 := Lib.hid (And.intro hok' hnr')
            clear hS5 hok' hnr' y0 y1 v0 v1 v2 v3 v4 v5 v6 HS4 HS3 hW hW2 hz hza hzo hzn
            go_wp2_with fail
            go_loopw [90, 12, 13, 14, 15, 16] (fun i _ _ _ _ _ wi => ∃ m : Nat, i = .int .i64 (m : Int) ∧ m ≤ 4 ∧ M2 w wi B M f' w2.heap.size f' [(wc.heap.size, #[.int .u8 (c : Int), .int .u8 (name : Int), .int .u8 96, .int .u8 97], 5)]) (fun i _ _ _ _ _ _ => 4 - (intOf i).toNat)
            case atStart => exact ⟨0, rfl, by omega, HS5.out⟩
            case round =>
              obtain ⟨m, rfl, hm, hS8⟩ := hrel
              by_cases hm4 : m < 4
              · obtain ⟨x, hx, hx256⟩ : ∃ x : Nat, (#[Value.int .u8 (c : Int), .int .u8 (name : Int), .int .u8 96, .int .u8 97] : Array Value)[m]? = some (.int .u8 (x : Int)) ∧ x < 256 := by
                  rcases (show m = 0 ∨ m = 1 ∨ m = 2 ∨ m = 3 by omega) with rfl | rfl | rfl | rfl
                  · exact ⟨c, rfl, hc⟩
                  · exact ⟨name, rfl, hname⟩
                  · exact ⟨96, rfl, by omega⟩
                  · exact ⟨97, rfl, by omega⟩
                have hcell : wr.cell? ⟨wc.heap.size, m, none⟩ = some (.int .u8 (x : Int)) := (Joins.cell_of_block hS8.i0 m).trans hx
                obtain ⟨q, hq⟩ : ∃ q, posOr (f' x) = q := ⟨_, rfl⟩
                obtain ⟨bb, hbb2⟩ : ∃ bb, (f' x).isSome = bb := ⟨_, rfl⟩
                have hPG : ∀ w' fs, M2 w w' B M f' w2.heap.size f' fs → Calls Try.prog 16 #[.pointer (some ⟨B, 0, none⟩), .int .u8 (x : Int)] w' fun e w'' => e = .returned (.tuple #[.agg #[.int .i64 q.1, .int .i64 q.2], .bool bb]) ∧ M2 w w'' B M f' w2.heap.size f' fs := fun w' fs h => by have := pget_m2 x w' h hx256; rw [hq, hbb2] at this; exact this
                have hDG : ∀ w' fs, M2 w w' B M f' w2.heap.size f' fs → Calls Try.prog 17 #[.pointer (some ⟨w2.heap.size, 0, none⟩), .int .u8 (x : Int)] w' fun e w'' => e = .returned (.tuple #[.agg #[.int .i64 q.1, .int .i64 q.2], .bool bb]) ∧ M2 w w'' B M f' w2.heap.size f' fs := fun w' fs h => by have := dget_m2 x w' h hx256; rw [hq, hbb2] at this; exact this
                have HPG := Lib.hid hPG
                have HDG := Lib.hid hDG
                have HS8 := Lib.hid hS8
                clear hS8 hx hq hbb2 hPG hDG
                have im : (0 : Int) ≤ (m : Int) := by omega
                have hbn : (bb != bb) = false := by cases bb <;> rfl
                go_wp2_with fail
                refine (HPG.out _ _ HS8.out).mono ?_
                rintro e w9 ⟨rfl, hS9⟩
                have HS9 := Lib.hid (hS9.alloc #[.int .i64 q.1, .int .i64 q.2] 37)
                clear hS9
                go_wp2_with fail
                refine (HDG.out _ _ HS9.out).mono ?_
                rintro e w10 ⟨rfl, hS10⟩
                have hS11 := hS10.alloc #[.int .i64 q.1, .int .i64 q.2] 37
                obtain ⟨W11, hW11⟩ : ∃ W11, w10.alloc (.cells #[.int .i64 q.1, .int .i64 q.2] 37) = W11 := ⟨_, rfl⟩
                rw [hW11] at hS11
                obtain ⟨r0, r1, _, _⟩ := two_cells hS11.i0
                obtain ⟨r2, r3, _, _⟩ := two_cells hS11.i1
                have HS11 := Lib.hid hS11
                clear hS11 hS10
                go_wp2_with fail
                go_roundw
                case rel => exact ⟨m + 1, by first | rfl | (simp; done) | (simp; omega), by omega, HS11.out.sel (by simp)⟩
                case measure => first | (simp [intOf]; done) | (simp [intOf]; omega)
              · have g4 : ¬ ((m : Nat) : Int) < 4 := by omega
                obtain ⟨v1, v2, q, hbox, hn1, _, _, _⟩ := hS8.r.ex
                have hPl := heap_lt hbox
                have p0 : wr.cell? ⟨w2.heap.size, 0, none⟩ = some v1 := (two_cells hbox).1
                have s0 := run_string_row (src := 32) (dst := 9) Try.underlying32 Try.underlying9 hn1
                have s1 := run_string_row (src := 32) (dst := 9) Try.underlying32 Try.underlying9 (row_only hn1 ((Only.refl No wr).drew) (fun _ _ h => h))
                obtain ⟨A1, c1, rfl, _, _, _, _, _, _⟩ := row_shape hn1
                have HN1 := Lib.hid hn1
                have HS8 := Lib.hid hS8
                clear hn1 hbox hS8
                go_upto_region 27 with (fail)
                go_cut [123] (fun s wx => s = .bool false ∧ Only No wr wx)
                case first =>
                  go_region_with
                    (first | (go_at_call 18; refine (Mf.names_all B M f' _ (HS8.out.no ((Only.refl No wr).drew)).reg).mono ?_; rintro e w1 ⟨v, rfl, hrow, hb1⟩; have hO1 : Only No wr w1 := ((Only.refl No wr).drew).call hb1; have hcv1 := run_string_row (src := 32) (dst := 9) Try.underlying32 Try.underlying9 (row_only HN1.out hO1 (fun _ _ h => h)); have hcv := run_string_row (src := 32) (dst := 9) Try.underlying32 Try.underlying9 hrow; have k0 := (cell_block (hO1.block w2.heap.size hPl (fun h => h)) 0).trans p0))
                  all_goals (go_wp2_with fail; go_meet)
                  all_goals exact ⟨rfl, hO1⟩
                case rest =>
                  obtain ⟨rfl, hO9⟩ := hcut
                  have HS9 := Lib.hid ((HS8.out.no hO9).sel (gs := []) (by simp))
                  clear hO9 p0 s0 s1
                  go_wp2_with fail
                  go_roundw
                  case rel => exact ⟨j + 1, f', by first | rfl | (simp; done) | (simp; omega), by omega, HS9.out, HK5.out.1, HK5.out.2⟩
                  case measure => first | (simp [intOf]; done) | (simp [intOf]; omega)
      · have g4 : ¬ (j : Int) < (n : Int) := by omega
        have HB := Lib.hid hS.bel
        clear hS hok hnr HL
        go_wp2_with fail
        go_ret
        exact ⟨rfl, HB.out⟩

theorem walk_any (w : World) {A : Option Addr} {n c : Nat} (hr : Script w A n c) (a : Int) (ha : (Lit.int .u8 a).wf = true) :
    Calls Try.prog 4 #[.slice A n c, .int .u8 a] w fun e w' => e = .returned (.bool true) ∧ Below w.heap.size w w' := by
  obtain ⟨h1, h2⟩ := bounds_u8 ha
  have := law_any A n c a.toNat w hr (by omega)
  rw [Int.toNat_of_nonneg h1] at this
  exact this

open Go.ChangeShapes Go.WideShapes Go.ChangeAt
open Go.ChangeMaps (open_string shut_string)
theorem own : ownKnob Try.prog.godebug = none := by kernel_rfl
theorem laidOut : laidOutB Try.prog = true := by kernel_rfl
set_option maxRecDepth 100000 in
theorem lifted (os : Os) (started : os.Started) (H : Type) (enc : TypeId × Value → H) :
    ReturnsInHanded {} Try.checked os 4 .any (Rows.marksPlaySpec.pre6 enc Try.prog Try.f4 Rows.marksPlayRow.domain false) (Rows.marksPlaySpec.post enc Try.prog Try.f4 false true false false) := by
  refine returnsInHanded_of_change_sized (C := Try.checked) own started (by kernel_rfl) Try.func4
    (ChangeSpec.witness6 (enc := enc) (C := Try.checked) false ⟨#[], #[.slice none 0 0, .int .u8 0], []⟩ 8 (by kernel_rfl) (by kernel_rfl) (by kernel_rfl) (by kernel_rfl)) ?_
  intro W base args ds gs before hval0 hW hcnd hsz0 _
  have hsz : (DataW.weightsEach Try.prog (Try.f4.params.toList ++ Rows.marksPlaySpec.plain.varTypes Try.prog) (ds ++ gs)).all (· ≤ reachBytes) = true := hsz0
  have hval : ∀ (j : Nat) t v, Try.f4.params[j]? = some t → args[j]? = some v → Value.okWide Try.prog W .any base t v := hval0
  have hW' := hW
  obtain ⟨p, q, hA0, hV, rfl, hfz, hnd⟩ := hW
  have hA : DataW.TrodAll enc Try.prog W 0 (fun _ => true) true Try.f4.params.toList args.toList ds p := hA0
  rw [Try.params4] at hA hval hsz
  obtain ⟨v0, vs0, d0, ds0, p0, q0, hargs, rfl, rfl, h0, r0⟩ := trodAll_cons hA
  obtain ⟨v1, vs1, d1, ds1, p1, q1, rfl, rfl, rfl, h1, r1⟩ := trodAll_cons r0
  obtain ⟨rfl, rfl, rfl⟩ := trodAll_nil r1
  obtain rfl : args = #[v0, v1] := by cases args; simp_all
  obtain ⟨rfl, rfl⟩ := trodVars_none hV
  obtain ⟨A0, n0, c0, rfl⟩ := okWide_slice Try.underlying28 (hval 0 28 v0 rfl rfl)
  have k0 := h0
  have lt0 : ∀ x ∈ p0, x.block < W.heap.size := by obtain ⟨m, hm⟩ := k0; exact DataW.trod_lt m _ _ _ hm
  have hr0 := acts_data h0
  obtain ⟨a1, rfl, rfl, rfl, w1⟩ := open_int Try.underlying5 (hval 1 5 v1 rfl rfl) h1
  clear hA0 hval0 hsz0
  refine (walk_any W hr0 _ w1).mono fun e W' ⟨he, bel⟩ => ?_
  subst he
  exact ⟨_, rfl, _, _, _, [], _, [], hW', trodAll_mk1 (shut_bool Try.underlying4 _), (trodAll_cons_mk (Below.trod laidOut (by kernel_rfl) (of_decide_eq_true (by kernel_rfl)) k0 bel lt0) (trodAll_cons_mk (shut_int Try.underlying5 w1) trodAll_mk0)), rfl, bel.frame _, fun h => by cases h⟩
theorem over : Rows.marksPlayRow.holds Try.pinned (OpenSpec.ofChange Rows.marksPlaySpec) :=
  OpenClaim.holds_of_wide 4 Try.f4 rfl rfl rfl rfl rfl rfl rfl ⟨rfl, rfl, rfl, rfl, rfl⟩ rfl rfl rfl rfl rfl (by kernel_rfl) Try.func4 (by kernel_rfl)
    (of_decide_eq_true (by kernel_rfl)) (by unfold Func.isWrapper; first | (rw [if_pos (by decide +kernel)]; kernel_rfl) | (rw [if_neg (by decide +kernel)]; exact ⟨rfl, rfl⟩))
    (fun os started H enc _ => lifted os started H enc)
end Go.Proofs.Ytlmghmndojfjpaa.marksPlay
namespace Go.Proofs.Ytlmghmndojfjpaa
theorem marksPlay_holds : Rows.MarksPlaySaid := marksPlay.over
#print axioms marksPlay_holds
end Go.Proofs.Ytlmghmndojfjpaa
