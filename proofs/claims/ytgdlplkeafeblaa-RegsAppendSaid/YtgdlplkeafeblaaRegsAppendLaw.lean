/- RegsAppend: a capital name adds to what is there: bytes to bytes, lines to lines; proved for every input, under no condition. -/
import Derived.Test.YtgdlplkeafeblaaRows
import Derived.Test.YtgdlplkeafeblaaRegsKnown
import Derived.Test.YtgdlplkeafeblaaArgs2
import Derived.Test.YtgdlplkeafeblaaSt
import Derived.WalkKit
import Derived.ProofKit
import Derived.OpenShut
import Derived.ChangeOld
import Derived.SizedLaws
namespace Go.Proofs.Ytgdlplkeafeblaa.regsAppend
open Go.RowKit Go.Shelf Go.Proofs.Ytgdlplkeafeblaa.MapRaw Go.Proofs.Ytgdlplkeafeblaa.Frm Go.Proofs.Ytgdlplkeafeblaa.Lns Go.Proofs.Ytgdlplkeafeblaa.Rg Go.Proofs.Ytgdlplkeafeblaa.Arg
set_option linter.unusedVariables false
set_option linter.unusedSimpArgs false

/-- All parts, one behind another. -/
def glue (L : List ByteArray) : ByteArray := L.foldl (· ++ ·) ByteArray.empty
theorem glue_snoc (L : List ByteArray) (s : ByteArray) : glue (L ++ [s]) = glue L ++ s := by simp [glue]
theorem glue_size (L : List ByteArray) : (glue L).size ≤ sizeL L := by
  have : ∀ (L : List ByteArray) (s : ByteArray), (L.foldl (· ++ ·) s).size ≤ s.size + sizeL L := by
    intro L
    induction L with
    | nil => intro s; simp [sizeL]
    | cons a l ih =>
      intro s
      rw [List.foldl_cons, sizeL_cons]
      have := ih (s ++ a)
      rw [ByteArray.size_append] at this
      omega
  have h := this L ByteArray.empty
  simpa [glue] using h
/-- What the register is behind parts. -/
def acc (lines : Bool) (L : List ByteArray) : Reg := if lines then (1, L) else (0, [glue L])
theorem acc_join (lines : Bool) (L : List ByteArray) (s : ByteArray) : join (acc lines L) (if lines then 1 else 0, [s]) = acc lines (L ++ [s]) := by
  cases lines
  · simp [acc, join, lat, glue_snoc]
  · simp [acc, join]
theorem acc_one (lines : Bool) (s : ByteArray) : ((if lines then 1 else 0, [s]) : Reg) = acc lines [s] := by
  cases lines
  · simp [acc, glue]
  · simp [acc]
theorem acc_size (lines : Bool) (L : List ByteArray) : sizeL (acc lines L).2 ≤ sizeL L + 1 := by
  cases lines
  · have := glue_size L
    simp [acc, sizeL_cons, sizeL_nil]; omega
  · simp [acc]

/-- One line out of a slice of them. -/
theorem lines_at {w : World} {b off n c j : Nat} {L : List ByteArray} (h : Lines w (some ⟨b, off, none⟩) n c L) (hj : j < n) : Lines w (some ⟨b, off + j, none⟩) 1 (c - j) [lat L j] := by
  have h1 := lines_take (lines_drop h (Nat.le_of_lt hj)) (show 1 ≤ n - j by omega)
  have hl := h.len
  have e : (L.drop j).take 1 = [lat L j] := by
    refine ext_lat (by simp; omega) (fun i hi => ?_)
    have hi0 : i = 0 := by simp at hi; omega
    subst hi0
    rw [lat_take (by omega), lat_drop]
    rfl
  rw [e] at h1
  exact h1

theorem yank_step {li : Bool} {f f' : Nat → Option Reg} {k j : Nat} {L : List ByteArray} (r : Reg) (hr : r = (if li then 1 else 0, [lat L j])) (hf : f (97 + k % 26) = if j = 0 then none else some (acc li (L.take j))) (hj : j < L.length) (h12 : j < 12) (hs : sizeL (L.take (j + 1)) ≤ 51 * (j + 1)) :
    setE f (65 + k % 26) r = 0 ∧ setF f f' (65 + k % 26) r (97 + k % 26) = some (acc li (L.take (j + 1))) ∧ setF f f' (65 + k % 26) r 34 = some (acc li (L.take (j + 1))) := by
  have hlt : k % 26 < 26 := Nat.mod_lt _ (by omega)
  have hcap : isCap (65 + k % 26) = true := by unfold isCap; simp; omega
  have hlet : isLetter (65 + k % 26) = true := by unfold isLetter; rw [hcap, Bool.or_true]
  have hnow : nowR f (65 + k % 26) r = acc li (L.take (j + 1)) := by
    unfold nowR
    rw [if_pos hcap, show 65 + k % 26 + 32 = 97 + k % 26 by omega, hf, take_succ_lat hj]
    by_cases h0 : j = 0
    · subst h0
      rw [if_pos rfl, hr, acc_one]; rfl
    · rw [if_neg h0, hr]
      exact acc_join _ _ _
  have hsz := acc_size li (L.take (j + 1))
  have hE : putE f (65 + k % 26) r = 0 := by unfold putE; rw [if_pos hlet, hnow, if_neg (by omega)]
  have h95 : ¬ 65 + k % 26 = 95 := by omega
  have hpl : isPlain (65 + k % 26) = false := by unfold isPlain; simp; omega
  refine ⟨?_, ?_, ?_⟩
  · unfold setE; rw [if_neg h95, hpl]; exact hE
  · unfold setF
    rw [if_neg h95, hpl, hE, hnow]
    simp only [Bool.false_eq_true, if_false, if_true]
    unfold updR
    rw [if_neg (by omega)]
    unfold putF
    rw [if_pos hE, hnow]
    unfold updR keyL
    rw [hcap]
    simp only [if_true]
    rw [if_pos (by omega)]
  · unfold setF
    rw [if_neg h95, hpl, hE, hnow]
    simp only [Bool.false_eq_true, if_false, if_true]
    unfold updR
    rw [if_pos rfl]
theorem snoc_bd {L : List ByteArray} {j : Nat} (hj : j < L.length) (h : ¬ 50 < (lat L j).size) (hs : sizeL (L.take j) ≤ 51 * j) : sizeL (L.take (j + 1)) ≤ 51 * (j + 1) := by
  rw [sizeL_take hj]; omega

set_option maxHeartbeats 8000000 in
set_option maxRecDepth 100000 in
theorem law_any (A : Option Addr) (n c : Nat) (L : List ByteArray) (li : Bool) (k : Nat) (w : World) (hL : Lines w A n c L) (hk : k < 256) :
    Calls Try.prog 8 #[.slice A n c, .bool li, .int .u8 (k : Int)] w fun e w' => e = .returned (.bool true) ∧ Below w.heap.size w w' := by
  have HZ := Lib.hid hL
  have hcap := hL.cap
  have hlen := hL.len
  clear hL
  by_cases hn : 12 < n ∨ n = 0
  · rcases hn with hn | hn
    · have g : (12 : Int) < (n : Int) := by omega
      clear hlen
      go_enter Try.func8, Try.ntmps8
      go_wp2_with (go_at_call 10; refine (known_calls _).mono ?_; rintro e w1 ⟨rfl, hb⟩)
      all_goals (go_ret; exact ⟨rfl, hb⟩)
    · subst hn
      clear hlen
      go_enter Try.func8, Try.ntmps8
      go_wp2_with (go_at_call 10; refine (known_calls _).mono ?_; rintro e w1 ⟨rfl, hb⟩)
      all_goals (go_ret; exact ⟨rfl, hb⟩)
  · have g1 : ¬ (12 : Int) < (n : Int) := by omega
    have g2 : ((n : Int) == 0) = false := by rw [beq_eq_false_iff_ne]; omega
    have Hlen := Lib.hid hlen
    clear hlen
    go_enter Try.func8, Try.ntmps8
    go_wp2_with (go_at_call 10; refine (known_calls _).mono ?_; rintro e w1 ⟨rfl, hb⟩)
    refine (new_st w w1 hb).mono ?_
    rintro e w2 ⟨B, M, rfl, hS⟩
    go_wp2_with fail
    clear hb
    go_loopw [8, 9, 10] (fun s i _ wr => ∃ (j : Nat) (f : Nat → Option Reg), s = .string (glue (L.take j)) ∧ i = .int .i64 (j : Int) ∧ j ≤ n ∧ St w wr B M f [] ∧ sizeL (L.take j) ≤ 51 * j ∧ f (97 + k % 26) = (if j = 0 then none else some (acc li (L.take j))) ∧ (j ≠ 0 → f 34 = some (acc li (L.take j)))) (fun _ i _ _ => n - (intOf i).toNat)
    case atStart => exact ⟨0, _, rfl, rfl, by omega, hS, by simp [sizeL], rfl, fun h => absurd rfl h⟩
    case round =>
      obtain ⟨j, f, rfl, rfl, hj, hS2, hsz, hf1, hf2⟩ := hrel
      clear hS
      by_cases hlt : j < n
      · obtain ⟨b, off, rfl, hbb, hcell⟩ := HZ.out.at hlt
        have hcz := (hS2.bel.cell (p := ⟨b, off + j, none⟩) hbb).trans hcell
        have HS := Lib.hid hS2
        have HCL := Lib.hid hcell
        clear hS2 hcell
        by_cases hbig : 50 < (lat L j).size
        · have g3 : (50 : Int) < ((lat L j).size : Int) := by omega
          go_wp2
          go_ret
          exact ⟨rfl, HS.out.bel⟩
        · have g3 : ¬ (50 : Int) < ((lat L j).size : Int) := by omega
          cases li
          · obtain ⟨x, hx⟩ : ∃ x : Nat, x = 65 + k % 26 := ⟨_, rfl⟩
            have hxi : (65 + (k : Int) % 26) = (x : Int) := by omega
            have hxl : x < 256 := by omega
            have hjl : j < L.length := by have := Hlen.out; omega
            have hs2 := snoc_bd hjl hbig hsz
            obtain ⟨q0, q1, q2⟩ := yank_step (li := false) (f' := updR f 48 (some (0, [lat L j]))) (0, [lat L j]) rfl hf1 hjl (by omega) hs2
            rw [← hx] at q0 q1 q2
            have gsz := glue_size (L.take j)
            have hgs : glue (L.take (j + 1)) = glue (L.take j) ++ lat L j := by rw [take_succ_lat hjl, glue_snoc]
            have hplus : (glue (L.take j)).size + (lat L j).size ≤ 9223372036854775807 := by omega
            have HX := Lib.hid (And.intro q0 (And.intro q1 (And.intro q2 (And.intro hs2 hgs))))
            have HI := Lib.hid hxi
            have HF := Lib.hid (And.intro hf1 hf2)
            have hss : sizeL [lat L j] ≤ 268435456 := by rw [sizeL_cons, sizeL_nil]; omega
            clear q0 q1 q2 hgs hxi hx hf1 hf2 hs2 gsz
            go_wp2_with fail
            rw [HI.out]
            refine (yank_st x (0, [lat L j]) _ (HS.out.alloc #[.int .i64 0, .slice (some ⟨b, off + j, none⟩) 1 (c - j)] 24) ((lines_at HZ.out hlt).below HS.out.bel |>.only ((Only.refl No _).alloc _) (fun _ _ h => h.elim)) hxl hss).mono ?_
            rintro e wy ⟨rfl, hSy⟩
            obtain ⟨q0, q1, q2, hs2, hgs⟩ := HX.out
            rw [q0]
            have hcy := (hSy.bel.cell (p := ⟨b, off + j, none⟩) hbb).trans HCL.out
            have HSy := Lib.hid hSy
            clear hSy HS q0 q1 q2 hs2 hgs hcz
            go_wp2_with fail
            go_roundw
            case rel =>
              obtain ⟨q0, q1, q2, hs2, hgs⟩ := HX.out
              exact ⟨j + 1, _, by rw [hgs], by first | rfl | (simp; done) | (simp; omega), by omega, HSy.out.only (fun x h => by cases h), hs2, by rw [if_neg (by omega)]; exact q1, fun _ => q2⟩
            case measure => first | (simp [intOf]; done) | (simp [intOf]; omega)
          · obtain ⟨x, hx⟩ : ∃ x : Nat, x = 65 + k % 26 := ⟨_, rfl⟩
            have hxi : (65 + (k : Int) % 26) = (x : Int) := by omega
            have hxl : x < 256 := by omega
            have hjl : j < L.length := by have := Hlen.out; omega
            have hs2 := snoc_bd hjl hbig hsz
            obtain ⟨q0, q1, q2⟩ := yank_step (li := true) (f' := updR f 48 (some (1, [lat L j]))) (1, [lat L j]) rfl hf1 hjl (by omega) hs2
            rw [← hx] at q0 q1 q2
            have gsz := glue_size (L.take j)
            have hgs : glue (L.take (j + 1)) = glue (L.take j) ++ lat L j := by rw [take_succ_lat hjl, glue_snoc]
            have hplus : (glue (L.take j)).size + (lat L j).size ≤ 9223372036854775807 := by omega
            have HX := Lib.hid (And.intro q0 (And.intro q1 (And.intro q2 (And.intro hs2 hgs))))
            have HI := Lib.hid hxi
            have HF := Lib.hid (And.intro hf1 hf2)
            have hss : sizeL [lat L j] ≤ 268435456 := by rw [sizeL_cons, sizeL_nil]; omega
            clear q0 q1 q2 hgs hxi hx hf1 hf2 hs2 gsz
            go_wp2_with fail
            rw [HI.out]
            refine (yank_st x (1, [lat L j]) _ (HS.out.alloc #[.int .i64 1, .slice (some ⟨b, off + j, none⟩) 1 (c - j)] 24) ((lines_at HZ.out hlt).below HS.out.bel |>.only ((Only.refl No _).alloc _) (fun _ _ h => h.elim)) hxl hss).mono ?_
            rintro e wy ⟨rfl, hSy⟩
            obtain ⟨q0, q1, q2, hs2, hgs⟩ := HX.out
            rw [q0]
            have hcy := (hSy.bel.cell (p := ⟨b, off + j, none⟩) hbb).trans HCL.out
            have HSy := Lib.hid hSy
            clear hSy HS q0 q1 q2 hs2 hgs hcz
            go_wp2_with fail
            go_roundw
            case rel =>
              obtain ⟨q0, q1, q2, hs2, hgs⟩ := HX.out
              exact ⟨j + 1, _, by rw [hgs], by first | rfl | (simp; done) | (simp; omega), by omega, HSy.out.only (fun x h => by cases h), hs2, by rw [if_neg (by omega)]; exact q1, fun _ => q2⟩
            case measure => first | (simp [intOf]; done) | (simp [intOf]; omega)
      · obtain rfl : j = n := by omega
        have htk : L.take j = L := by rw [Hlen.out, List.take_length]
        have hj0 : j ≠ 0 := by omega
        rw [htk, if_neg hj0] at hf1
        have hf2 := hf2 hj0
        rw [htk] at hf2 hsz
        rw [htk]
        have HS := Lib.hid hS2
        obtain ⟨x, hx⟩ : ∃ x : Nat, x = 97 + k % 26 := ⟨_, rfl⟩
        have hxi : (97 + (k : Int) % 26) = (x : Int) := by omega
        have hxl : x < 256 := by omega
        have hkx : Rg.keyOf x = x := by unfold Rg.keyOf; rw [if_neg (by omega), if_neg (by omega)]
        have hk0 : Rg.keyOf 0 = 34 := rfl
        have hg1 : f (Rg.keyOf x) = some (acc li L) := by rw [hkx, hx]; exact hf1
        have hg2 : f (Rg.keyOf 0) = some (acc li L) := by rw [hk0]; exact hf2
        have HI := Lib.hid hxi
        clear hS2 hf1 hf2 hxi hx hkx hk0 htk hj0 hj
        have HG := Lib.hid (And.intro hg1 hg2)
        clear hg1 hg2
        go_wp2_with fail
        rw [HI.out]
        refine (get_st x _ HS.out hxl).mono ?_
        rintro e wa ⟨A1, n1, c1, rfl, hSa⟩
        rw [HG.out.1] at hSa ⊢
        simp only [regOr, Option.getD_some, Option.isSome_some] at hSa ⊢
        clear HS
        have HSa := Lib.hid (hSa.alloc #[.int .i64 (acc li L).1, .slice A1 n1 c1] 24)
        clear hSa
        go_wp2_with fail
        refine (get_st 0 _ HSa.out (by omega)).mono ?_
        rintro e wb ⟨A2, n2, c2, rfl, hSb⟩
        rw [HG.out.2] at hSb ⊢
        simp only [regOr, Option.getD_some, Option.isSome_some] at hSb ⊢
        clear HSa
        cases li
        · have hlw : Lines (((wb.alloc (.cells #[.int .i64 (acc false L).1, .slice A2 n2 c2] 24)).alloc (.cells #[.string (glue L)] 9)).alloc (.cells #[.int .i64 0, .slice (some ⟨wb.heap.size + 1, 0, none⟩) 1 1] 24)) (some ⟨wb.heap.size + 1, 0, none⟩) 1 1 (acc false L).2 := (lines_one (by simp)).only ((Only.refl No _).alloc _) (fun _ _ h => h.elim)
          have hSc := ((hSb.alloc #[.int .i64 (acc false L).1, .slice A2 n2 c2] 24).alloc #[.string (glue L)] 9).alloc #[.int .i64 0, .slice (some ⟨wb.heap.size + 1, 0, none⟩) 1 1] 24
          obtain ⟨r0, r1, _, _⟩ := reg_cells (show (((wb.alloc (.cells #[.int .i64 (acc false L).1, .slice A2 n2 c2] 24)).alloc (.cells #[.string (glue L)] 9)).alloc (.cells #[.int .i64 0, .slice (some ⟨wb.heap.size + 1, 0, none⟩) 1 1] 24)).heap[wa.heap.size]? = some (.cells #[.int .i64 (acc false L).1, .slice A1 n1 c1] 24 (0, 0)) from hSc.i4)
          obtain ⟨t0, t1, _, _⟩ := reg_cells (show (((wb.alloc (.cells #[.int .i64 (acc false L).1, .slice A2 n2 c2] 24)).alloc (.cells #[.string (glue L)] 9)).alloc (.cells #[.int .i64 0, .slice (some ⟨wb.heap.size + 1, 0, none⟩) 1 1] 24)).heap[wb.heap.size]? = some (.cells #[.int .i64 (acc false L).1, .slice A2 n2 c2] 24 (0, 0)) from hSc.i2)
          have HSc := Lib.hid (hSc.add (x := .lines (some ⟨wb.heap.size + 1, 0, none⟩) 1 1 (acc false L).2) hlw)
          clear hSc hlw hSb
          go_wp2_with fail
          have e0 : (acc false L).1 = 0 := rfl
          refine (reg_calls _ _ (acc false L) (acc false L) _ ⟨_, _, _, rfl, HSc.out.fs (.lines A1 n1 c1 (acc false L).2) (by simp)⟩ ⟨_, _, _, by rw [e0], HSc.out.i0⟩).mono ?_
          rintro e wd ⟨rfl, hO⟩
          rw [decide_eq_true (rfl : acc false L = acc false L)]
          have hSd := HSc.out.no hO
          obtain ⟨t0, t1, _, _⟩ := reg_cells (show wd.heap[wb.heap.size]? = some (.cells #[.int .i64 (acc false L).1, .slice A2 n2 c2] 24 (0, 0)) from hSd.i3)
          obtain ⟨r0, r1, _, _⟩ := reg_cells (show wd.heap[wb.heap.size + 1 + 1]? = some (.cells #[.int .i64 0, .slice (some ⟨wb.heap.size + 1, 0, none⟩) 1 1] 24 (0, 0)) from by simpa [Fact.ok] using hSd.i1)
          clear HSc hO
          have HSd := Lib.hid hSd
          clear hSd
          go_wp2_with fail
          refine (reg_calls _ _ (acc false L) (acc false L) _ ⟨_, _, _, rfl, HSd.out.fs (.lines A2 n2 c2 (acc false L).2) (by simp)⟩ ⟨_, _, _, by rw [e0], HSd.out.i0⟩).mono ?_
          rintro e we ⟨rfl, hO⟩
          rw [decide_eq_true (rfl : acc false L = acc false L)]
          have hSe := Lib.hid (HSd.out.no hO)
          clear hO HSd
          go_wp2_with fail
          go_ret
          exact ⟨rfl, hSe.out.bel⟩
        · have hlw : Lines (((wb.alloc (.cells #[.int .i64 (acc true L).1, .slice A2 n2 c2] 24)).alloc (.cells #[.string (glue L)] 9)).alloc (.cells #[.int .i64 1, .slice A j c] 24)) A j c (acc true L).2 := (HZ.out.below hSb.bel).only ((((Only.refl No _).alloc _).alloc _).alloc _) (fun _ _ h => h.elim)
          have hSc := ((hSb.alloc #[.int .i64 (acc true L).1, .slice A2 n2 c2] 24).alloc #[.string (glue L)] 9).alloc #[.int .i64 1, .slice A j c] 24
          obtain ⟨r0, r1, _, _⟩ := reg_cells (show (((wb.alloc (.cells #[.int .i64 (acc true L).1, .slice A2 n2 c2] 24)).alloc (.cells #[.string (glue L)] 9)).alloc (.cells #[.int .i64 1, .slice A j c] 24)).heap[wa.heap.size]? = some (.cells #[.int .i64 (acc true L).1, .slice A1 n1 c1] 24 (0, 0)) from hSc.i4)
          obtain ⟨t0, t1, _, _⟩ := reg_cells (show (((wb.alloc (.cells #[.int .i64 (acc true L).1, .slice A2 n2 c2] 24)).alloc (.cells #[.string (glue L)] 9)).alloc (.cells #[.int .i64 1, .slice A j c] 24)).heap[wb.heap.size]? = some (.cells #[.int .i64 (acc true L).1, .slice A2 n2 c2] 24 (0, 0)) from hSc.i2)
          have HSc := Lib.hid (hSc.add (x := .lines A j c (acc true L).2) hlw)
          clear hSc hlw hSb
          go_wp2_with fail
          have e0 : (acc true L).1 = 1 := rfl
          refine (reg_calls _ _ (acc true L) (acc true L) _ ⟨_, _, _, rfl, HSc.out.fs (.lines A1 n1 c1 (acc true L).2) (by simp)⟩ ⟨_, _, _, by rw [e0], HSc.out.i0⟩).mono ?_
          rintro e wd ⟨rfl, hO⟩
          rw [decide_eq_true (rfl : acc true L = acc true L)]
          have hSd := HSc.out.no hO
          obtain ⟨t0, t1, _, _⟩ := reg_cells (show wd.heap[wb.heap.size]? = some (.cells #[.int .i64 (acc true L).1, .slice A2 n2 c2] 24 (0, 0)) from hSd.i3)
          obtain ⟨r0, r1, _, _⟩ := reg_cells (show wd.heap[wb.heap.size + 1 + 1]? = some (.cells #[.int .i64 1, .slice A j c] 24 (0, 0)) from by simpa [Fact.ok] using hSd.i1)
          clear HSc hO
          have HSd := Lib.hid hSd
          clear hSd
          go_wp2_with fail
          refine (reg_calls _ _ (acc true L) (acc true L) _ ⟨_, _, _, rfl, HSd.out.fs (.lines A2 n2 c2 (acc true L).2) (by simp)⟩ ⟨_, _, _, by rw [e0], HSd.out.i0⟩).mono ?_
          rintro e we ⟨rfl, hO⟩
          rw [decide_eq_true (rfl : acc true L = acc true L)]
          have hSe := Lib.hid (HSd.out.no hO)
          clear hO HSd
          go_wp2_with fail
          go_ret
          exact ⟨rfl, hSe.out.bel⟩

theorem walk_any (w : World) {A : Option Addr} {n c : Nat} (hr : ∃ L, Lines w A n c L ∧ ∀ s ∈ L, s.size ≤ maxLen) (li : Bool) (k : Int) (hk : (Lit.int .u8 k).wf = true) :
    Calls Try.prog 8 #[.slice A n c, .bool li, .int .u8 k] w fun e w' => e = .returned (.bool true) ∧ Below w.heap.size w w' := by
  obtain ⟨L, hL, _⟩ := hr
  obtain ⟨h1, h2⟩ := bounds_u8 hk
  obtain ⟨x, rfl⟩ := Int.eq_ofNat_of_zero_le h1
  exact law_any A n c L li x w hL (by omega)

open Go.ChangeShapes Go.WideShapes Go.ChangeAt
open Go.ChangeMaps (open_string shut_string)
theorem own : ownKnob Try.prog.godebug = none := by kernel_rfl
theorem laidOut : laidOutB Try.prog = true := by kernel_rfl
set_option maxRecDepth 100000 in
theorem lifted (os : Os) (started : os.Started) (H : Type) (enc : TypeId × Value → H) :
    ReturnsInHanded {} Try.checked os 8 .any (Rows.regsAppendSpec.pre6 enc Try.prog Try.f8 Rows.regsAppendRow.domain false) (Rows.regsAppendSpec.post enc Try.prog Try.f8 false true false false) := by
  refine returnsInHanded_of_change_sized (C := Try.checked) own started (by kernel_rfl) Try.func8
    (ChangeSpec.witness6 (enc := enc) (C := Try.checked) false ⟨#[], #[.slice none 0 0, .bool false, .int .u8 0], []⟩ 8 (by kernel_rfl) (by kernel_rfl) (by kernel_rfl) (by kernel_rfl)) ?_
  intro W base args ds gs before hval0 hW hcnd hsz0 _
  have hsz : (DataW.weightsEach Try.prog (Try.f8.params.toList ++ Rows.regsAppendSpec.plain.varTypes Try.prog) (ds ++ gs)).all (· ≤ reachBytes) = true := hsz0
  have hval : ∀ (j : Nat) t v, Try.f8.params[j]? = some t → args[j]? = some v → Value.okWide Try.prog W .any base t v := hval0
  have hW' := hW
  obtain ⟨p, q, hA0, hV, rfl, hfz, hnd⟩ := hW
  have hA : DataW.TrodAll enc Try.prog W 0 (fun _ => true) true Try.f8.params.toList args.toList ds p := hA0
  rw [Try.params8] at hA hval hsz
  obtain ⟨v0, vs0, d0, ds0, p0, q0, hargs, rfl, rfl, h0, r0⟩ := trodAll_cons hA
  obtain ⟨v1, vs1, d1, ds1, p1, q1, rfl, rfl, rfl, h1, r1⟩ := trodAll_cons r0
  obtain ⟨v2, vs2, d2, ds2, p2, q2, rfl, rfl, rfl, h2, r2⟩ := trodAll_cons r1
  obtain ⟨rfl, rfl, rfl⟩ := trodAll_nil r2
  obtain rfl : args = #[v0, v1, v2] := by cases args; simp_all
  obtain ⟨rfl, rfl⟩ := trodVars_none hV
  obtain ⟨A0, n0, c0, rfl⟩ := okWide_slice Try.underlying22 (hval 0 22 v0 rfl rfl)
  have k0 := h0
  have lt0 : ∀ x ∈ p0, x.block < W.heap.size := by obtain ⟨m, hm⟩ := k0; exact DataW.trod_lt m _ _ _ hm
  have hr0 := lines_arg Try.underlying22 h0
  obtain ⟨a1, rfl, rfl, rfl⟩ := open_bool Try.underlying4 (hval 1 4 v1 rfl rfl) h1
  obtain ⟨a2, rfl, rfl, rfl, w2⟩ := open_int Try.underlying5 (hval 2 5 v2 rfl rfl) h2
  clear hA0 hval0 hsz0
  refine (walk_any W hr0 _ _ w2).mono fun e W' ⟨he, bel⟩ => ?_
  subst he
  exact ⟨_, rfl, _, _, _, [], _, [], hW', trodAll_mk1 (shut_bool Try.underlying4 _), (trodAll_cons_mk (Below.trod laidOut (by kernel_rfl) (of_decide_eq_true (by kernel_rfl)) k0 bel lt0) (trodAll_cons_mk (shut_bool Try.underlying4 _) (trodAll_cons_mk (shut_int Try.underlying5 w2) trodAll_mk0))), rfl, bel.frame _, fun h => by cases h⟩
theorem over : Rows.regsAppendRow.holds Try.pinned (OpenSpec.ofChange Rows.regsAppendSpec) :=
  OpenClaim.holds_of_wide 8 Try.f8 rfl rfl rfl rfl rfl rfl rfl ⟨rfl, rfl, rfl, rfl, rfl⟩ rfl rfl rfl rfl rfl (by kernel_rfl) Try.func8 (by kernel_rfl)
    (of_decide_eq_true (by kernel_rfl)) (by unfold Func.isWrapper; first | (rw [if_pos (by decide +kernel)]; kernel_rfl) | (rw [if_neg (by decide +kernel)]; exact ⟨rfl, rfl⟩))
    (fun os started H enc _ => lifted os started H enc)
end Go.Proofs.Ytgdlplkeafeblaa.regsAppend
namespace Go.Proofs.Ytgdlplkeafeblaa
theorem regsAppend_holds : Rows.RegsAppendSaid := regsAppend.over
#print axioms regsAppend_holds
end Go.Proofs.Ytgdlplkeafeblaa
