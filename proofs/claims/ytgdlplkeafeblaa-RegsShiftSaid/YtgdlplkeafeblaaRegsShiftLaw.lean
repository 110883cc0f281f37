/- RegsShift: cuts of whole lines go down from 1 to 9, and small ones leave these as they are; proved for every input, under no condition. -/
import Derived.Test.YtgdlplkeafeblaaRows
import Derived.Test.YtgdlplkeafeblaaRegsKnown
import Derived.Test.YtgdlplkeafeblaaArgs2
import Derived.Test.YtgdlplkeafeblaaSt
import Derived.Laws.BytesString
import Derived.Laws.BytesArg
import Derived.WalkKit
import Derived.IntWalk
import Derived.ProofKit
import Derived.OpenShut
import Derived.ChangeOld
import Derived.SizedLaws
namespace Go.Proofs.Ytgdlplkeafeblaa.regsShift
open Go.RowKit Go.Shelf Go.Proofs.Ytgdlplkeafeblaa.MapRaw Go.Proofs.Ytgdlplkeafeblaa.Frm Go.Proofs.Ytgdlplkeafeblaa.Lns Go.Proofs.Ytgdlplkeafeblaa.Rg Go.Proofs.Ytgdlplkeafeblaa.Arg
set_option linter.unusedVariables false
set_option linter.unusedSimpArgs false

/-- The string of bytes. -/
def ofInts (ns : List Int) : ByteArray := ns.foldl (fun r n => r.push (UInt8.ofNat n.toNat)) ByteArray.empty
theorem ofInts_size (ns : List Int) : (ofInts ns).size = ns.length := by
  unfold ofInts
  rw [foldl_push_bytes]
  have : ∀ (l : List UInt8), (⟨ByteArray.empty.data ++ l.toArray⟩ : ByteArray).size = l.length := fun l => by
    show (ByteArray.empty.data ++ l.toArray).size = l.length
    rw [Array.size_append]
    simp [ByteArray.empty, ByteArray.emptyWithCapacity]
    first | done | rfl
  rw [this, List.length_map]
theorem run_two (w : World) (x k : Int) : (convert 34 9 (.slice (some ⟨w.heap.size, 0, none⟩) 2 2)).run Try.prog (w.alloc (.cells #[.int .u8 x, .int .u8 k] 5)) = .ok (.string (ofInts [x, k])) (w.alloc (.cells #[.int .u8 x, .int .u8 k] 5)) := by
  have hl := run_loadCells_list (P := Try.prog) (w := w.alloc (.cells #[.int .u8 x, .int .u8 k] 5)) ⟨w.heap.size, 0, none⟩ [.int .u8 x, .int .u8 k] (fun j v hj => by
    rw [add_plain, cell_new, Nat.zero_add]
    rcases j with _ | _ | j
    · exact hj
    · exact hj
    · simp at hj)
  rw [run_convert_bytes_string _ 34 9 5 _ _ _ Try.underlying34 Try.underlying5 Try.underlying9, run_bytesToString _ _ 2 2 [x, k] hl]
  rfl

/-- The numbered registers and the small one hold these. -/
def G (f : Nat → Option Reg) (bg : List ByteArray) (la : Option ByteArray) : Prop :=
  (∀ k, k < 9 → f (49 + k) = if k < bg.length then some (1, [lat bg k]) else none) ∧ f 45 = la.map (fun s => (0, [s]))
theorem setE0 {f : Nat → Option Reg} {r : Reg} (h : sizeL r.2 ≤ 4096) : setE f 0 r = 0 := by
  unfold setE
  rw [if_neg (by omega), if_pos (show isPlain 0 = true from rfl), if_neg (by omega)]
theorem setF0 {f f' : Nat → Option Reg} {r : Reg} (h : sizeL r.2 ≤ 4096) : setF f f' 0 r = updR f' 34 (some r) := by
  unfold setF
  rw [if_neg (by omega), if_pos (show isPlain 0 = true from rfl), if_neg (by omega)]
theorem G_small {f : Nat → Option Reg} {bg : List ByteArray} {la : Option ByteArray} (h : G f bg la) (s : ByteArray) : G (updR (cutF f (0, [s])) 34 (some (0, [s]))) bg (some s) := by
  have hc : cutF f (0, [s]) = updR f 45 (some (0, [s])) := by unfold cutF; rw [if_pos (by unfold isSmall; simp)]
  rw [hc]
  refine ⟨fun k hk => ?_, ?_⟩
  · unfold updR; rw [if_neg (by omega), if_neg (by omega)]; exact h.1 k hk
  · unfold updR; rw [if_neg (by omega), if_pos rfl]; rfl
theorem G_big {f : Nat → Option Reg} {bg : List ByteArray} {la : Option ByteArray} (h : G f bg la) (s : ByteArray) : G (updR (cutF f (1, [s])) 34 (some (1, [s]))) (s :: bg) la := by
  have hc : cutF f (1, [s]) = updR (shiftTo f 49) 49 (some (1, [s])) := by unfold cutF; rw [if_neg (by unfold isSmall; simp)]
  rw [hc]
  refine ⟨fun k hk => ?_, ?_⟩
  · unfold updR
    rw [if_neg (by omega)]
    rcases k with _ | k
    · rw [if_pos rfl]; rfl
    · rw [if_neg (by omega)]
      unfold shiftTo
      rw [if_pos (by omega), show 49 + (k + 1) - 1 = 49 + k by omega, h.1 k (by omega)]
      by_cases hk2 : k < bg.length
      · rw [if_pos hk2, if_pos (by simp; omega)]; simp [lat]
      · rw [if_neg hk2, if_neg (by simp; omega), h.1 (k + 1) hk, if_neg (by omega)]
  · unfold updR
    rw [if_neg (by omega), if_neg (by omega)]
    unfold shiftTo
    rw [if_neg (by omega)]
    exact h.2
theorem lines_at {w : World} {b off n c j : Nat} {L : List ByteArray} (h : Lines w (some ⟨b, off, none⟩) n c L) (hj : j < n) : Lines w (some ⟨b, off + j, none⟩) 1 (c - j) [lat L j] := by
  have h1 := lines_take (lines_drop h (Nat.le_of_lt hj)) (show 1 ≤ n - j by omega)
  have hl := h.len
  have e : (L.drop j).take 1 = [lat L j] := by
    refine ext_lat (by simp; omega) (fun i hi => ?_)
    have hi0 : i = 0 := by simp at hi; omega
    subst hi0
    rw [lat_take (by omega), lat_drop]
    rfl
  rw [e] at h1
  exact h1
theorem full_list {s : ByteArray} (h : s.size = 2) : s.toList ≠ [] := by
  rw [Lib.toList_data]
  intro e
  have : s.data.toList.length = 2 := by rw [Array.length_toList]; exact h
  rw [e] at this
  cases this
theorem store_one {w : World} {g : Nat} {a b x : Value} {t : TypeId} (h : w.heap[g]? = some (.cells #[a, b] t (0, 0))) : (w.setCell ⟨g, 0, none⟩ x).heap[g]? = some (.cells #[x, b] t (0, 0)) := by
  simp [World.setCell, Array.getElem?_modify, h]
theorem own_one {w : World} {base g : Nat} {s : ByteArray} (h : w.heap[g]? = some (.cells #[.string s] 9 (0, 0))) (hb : base ≤ g) : Lns.Own w base (.slice (some ⟨g, 0, none⟩) 1 1) [s] :=
  ⟨rfl, .inr ⟨g, 1, #[.string s], rfl, hb, h, Nat.le_refl _, by unfold maxLen; omega, by simp, by simp⟩⟩
/-- The last small one, as a string. -/
def strOf (la : Option ByteArray) : ByteArray := la.getD ⟨#[]⟩

set_option maxHeartbeats 8000000 in
set_option maxRecDepth 100000 in
theorem law_any (A : Option Addr) (n c : Nat) (z : Nat → Bool) (k : Int) (w : World) (hz : Bools w A n c z) (hk0 : 0 ≤ k) (hk1 : k ≤ 255) :
    Calls Try.prog 4 #[.int .u8 k, .slice A n c] w fun e w' => e = .returned (.bool true) ∧ Below w.heap.size w w' := by
  have HZ := Lib.hid hz
  clear hz
  by_cases hn : 30 < n
  · have g : (30 : Int) < (n : Int) := by omega
    go_enter Try.func4, Try.ntmps4
    go_wp2_with (go_at_call 10; refine (known_calls _).mono ?_; rintro e w1 ⟨rfl, hb⟩)
    go_ret
    exact ⟨rfl, hb⟩
  · have g : ¬ (30 : Int) < (n : Int) := by omega
    go_enter Try.func4, Try.ntmps4
    go_wp2_with (go_at_call 10; refine (known_calls _).mono ?_; rintro e w1 ⟨rfl, hb⟩)
    refine (new_st w w1 hb).mono ?_
    rintro e w2 ⟨B, M, rfl, hS⟩
    clear hb
    go_wp2_with fail
    go_loopw [6, 7, 8, 9, 10] (fun big last i _ _ wr => ∃ (j : Nat) (f : Nat → Option Reg) (A6 : Option Addr) (c6 : Nat) (bg : List ByteArray) (la : Option ByteArray), big = .slice A6 bg.length c6 ∧ last = .string (strOf la) ∧ i = .int .i64 (j : Int) ∧ j ≤ n ∧ St w wr B M f [.lines A6 bg.length c6 bg] ∧ bg.length ≤ j ∧ G f bg la ∧ (∀ s, la = some s → s.size = 2)) (fun _ _ i _ _ _ => n - (intOf i).toNat)
    case atStart => exact ⟨0, _, none, 0, [], none, rfl, rfl, rfl, by omega, hS.add (x := .lines none 0 0 []) ⟨rfl, Nat.le_refl _, Nat.zero_le _, fun _ => rfl, .inl rfl⟩, Nat.le_refl _, ⟨fun k hk => rfl, rfl⟩, fun s h => by cases h⟩
    case round =>
      obtain ⟨j, f, A6, c6, bg, la, rfl, rfl, rfl, hj, hS2, hbl, hG, hla⟩ := hrel
      clear hS
      by_cases hlt : j < n
      · obtain ⟨b, off, rfl, hbb, hcell⟩ : ∃ b off, A = some ⟨b, off, none⟩ ∧ b < w.heap.size ∧ ∀ i, i < n → w.cell? ⟨b, off + i, none⟩ = some (.bool (z i)) := HZ.out.cells.resolve_left (by omega)
        have hcz := hcell j hlt
        clear hcell
        have hconv := run_two wr (97 + (j : Int) % 26) k
        obtain ⟨sj, hsj⟩ : ∃ sj, ofInts [97 + (j : Int) % 26, k] = sj := ⟨_, rfl⟩
        have hsz : sj.size = 2 := by rw [← hsj, ofInts_size]; rfl
        rw [hsj] at hconv
        clear hsj
        have HSZ := Lib.hid hsz
        have hS3 := (((hS2.alloc #[.int .u8 (97 + (j : Int) % 26), .int .u8 k] 5).alloc #[.string sj] 9).add (x := .lines (some ⟨wr.heap.size + 1, 0, none⟩) 1 1 [sj]) (lines_one (by simp))).alloc #[.int .i64 1, .slice (some ⟨wr.heap.size + 1, 0, none⟩) 1 1] 24
        obtain ⟨W, hW⟩ : ∃ W, ((wr.alloc (.cells #[.int .u8 (97 + (j : Int) % 26), .int .u8 k] 5)).alloc (.cells #[.string sj] 9)).alloc (.cells #[.int .i64 1, .slice (some ⟨wr.heap.size + 1, 0, none⟩) 1 1] 24) = W := ⟨_, rfl⟩
        rw [hW] at hS3
        have hcW := (hS3.bel.cell (p := ⟨b, off + j, none⟩) hbb).trans hcz
        have HS2 := Lib.hid hS2
        have HG := Lib.hid hG
        have HLA := Lib.hid hla
        clear hS2 hG hla hsz
        have hq := hS3.i0
        have hF : W.heap[wr.heap.size + 1 + 1]? = some (.cells #[.int .i64 1, .slice (some ⟨wr.heap.size + 1, 0, none⟩) 1 1] 24 (0, 0)) := by simpa [Fact.ok] using hq
        have hL9 : Lines W (some ⟨wr.heap.size + 1, 0, none⟩) 1 1 [sj] := hS3.i1
        have hLb : Lines W A6 bg.length c6 bg := hS3.fs (.lines A6 bg.length c6 bg) (by simp)
        have hS4 := hS3.only (gs := [.cells (wr.heap.size + 1 + 1) #[.int .i64 1, .slice (some ⟨wr.heap.size + 1, 0, none⟩) 1 1] 24, .lines (some ⟨wr.heap.size + 1, 0, none⟩) 1 1 [sj], .lines A6 bg.length c6 bg]) (by simp)
        have hw0 := HS2.out.bel.size
        obtain ⟨x0, x1, x2, x3⟩ := reg_cells hF
        obtain ⟨q, hqq⟩ : ∃ q, wr.heap.size + 1 + 1 = q := ⟨_, rfl⟩
        have hq0 : w.heap.size ≤ q := by omega
        rw [hqq] at hF hS4 x0 x1 x2 x3
        have hsl : sizeL [sj] ≤ 4096 := by rw [sizeL_cons, sizeL_nil]; have := HSZ.out; omega
        cases hzj : z j
        · rw [hzj] at hcW
          have HS4 := Lib.hid hS4
          have HLB := Lib.hid hLb
          have HL9 := Lib.hid hL9
          clear hS3 hcz hS4 hLb hL9 hF hq x0 x1 x2 x3
          have HO0 := Lib.hid (show Lns.Own (W.alloc (.cells #[.string sj] 9)) W.heap.size (.slice (some ⟨W.heap.size, 0, none⟩) 1 1) [sj] from own_one (alloc_new W _) (Nat.le_refl _))
          have hsum : [sj].length + bg.length ≤ 1099511627776 := by simp; omega
          go_wp2_with (at_builtin; refine wpList_app rfl _ _ rfl W.heap.size _ [sj] bg A6 bg.length c6 rfl rfl HO0.out (HLB.out.only ((Only.refl No W).alloc _) (fun _ _ h => h.elim)) hsum (by simp) ?_; intro v' w' hown' hg'; (obtain ⟨A', c', rfl, hl'⟩ := hown'.lines); (have hO : Only No W w' := ((Only.refl No W).alloc _).grown hg' (fun b e => .inl (HO0.out.ge e))); (have hS5 := (HS4.out.no hO).add (x := .lines A' ([sj] ++ bg).length c' ([sj] ++ bg)) hl'); (obtain ⟨x0, x1, x2, x3⟩ := reg_cells hS5.i1))
          have HS5 := Lib.hid hS5
          clear hS5 x0 x1 x2 x3 hl' hO hg' hown' HO0 HS4
          refine (cut_st 0 (1, [sj]) _ HS5.out (HS5.out.fs (.lines (some ⟨wr.heap.size + 1, 0, none⟩) 1 1 [sj]) (by simp)) (by omega) (Nat.le_trans hsl (by omega))).mono ?_
          rintro e wy ⟨rfl, hSy⟩
          rw [setE0 hsl]
          rw [setF0 hsl] at hSy
          have hGy := G_big HG.out sj
          have HSy := Lib.hid (hSy.only (gs := [.lines A' ([sj] ++ bg).length c' ([sj] ++ bg)]) (by simp))
          clear hSy HS5
          have HGy := Lib.hid hGy
          clear hGy
          go_wp2_with fail
          go_roundw
          case rel => exact ⟨j + 1, _, A', c', sj :: bg, la, by first | rfl | simp, rfl, by first | rfl | (simp; done) | (simp; omega), by omega, HSy.out, by simp; omega, HGy.out, HLA.out⟩
          case measure => first | (simp [intOf]; done) | (simp [intOf]; omega)
        · rw [hzj] at hcW
          have HS4 := Lib.hid hS4
          have hst := store_one (x := .int .i64 0) hF
          have hS5 := hS4.write (gs := [.cells q #[.int .i64 0, .slice (some ⟨wr.heap.size + 1, 0, none⟩) 1 1] 24, .lines (some ⟨wr.heap.size + 1, 0, none⟩) 1 1 [sj], .lines A6 bg.length c6 bg]) hF hq0 (fun o s => by rcases o with _ | _ | o <;> simp) ((Only.refl (fun b => b = q) W).setCell (p := ⟨q, 0, none⟩) (.inr rfl) _) hst (by have := heap_lt HS2.out.reg.box; omega) (by simp)
          have HS5 := Lib.hid hS5
          clear hS3 hcz hS4 hLb hL9 hF hq hst hS5
          go_wp2_with fail
          refine (cut_st 0 (0, [sj]) _ HS5.out HS5.out.i1 (by omega) (Nat.le_trans hsl (by omega))).mono ?_
          rintro e wy ⟨rfl, hSy⟩
          rw [setE0 hsl]
          rw [setF0 hsl] at hSy
          have HGy := Lib.hid (G_small HG.out sj)
          have HSy := Lib.hid (hSy.only (gs := [.lines A6 bg.length c6 bg]) (by simp))
          clear hSy HS5
          go_wp2_with fail
          go_roundw
          case rel => exact ⟨j + 1, _, A6, c6, bg, some sj, rfl, rfl, by first | rfl | (simp; done) | (simp; omega), by omega, HSy.out, by omega, HGy.out, fun s h => by cases h; exact HSZ.out⟩
          case measure => first | (simp [intOf]; done) | (simp [intOf]; omega)
      · obtain rfl : j = n := by omega
        clear hlt hj
        have HS2 := Lib.hid hS2
        have HG := Lib.hid hG
        have HLA := Lib.hid hla
        clear hS2 hG hla
        go_wp2_with fail
        go_loopw [11, 12, 13] (fun i _ _ wr => ∃ (q : Nat), i = .int .i64 (q : Int) ∧ q ≤ 9 ∧ St w wr B M f [.lines A6 bg.length c6 bg]) (fun i _ _ _ => 9 - (intOf i).toNat)
        case atStart => exact ⟨0, rfl, by omega, HS2.out⟩
        case round =>
          obtain ⟨q, rfl, hq, hS3⟩ := hrel
          clear HS2
          have HS3 := Lib.hid hS3
          clear hS3
          by_cases hlt : q < 9
          · have hfq := HG.out.1 q hlt
            obtain ⟨x, hx⟩ : ∃ x : Nat, x = 49 + q := ⟨_, rfl⟩
            have hxi : (49 + (q : Int)) = (x : Int) := by omega
            have hkx : Rg.keyOf x = 49 + q := by unfold Rg.keyOf; rw [if_neg (by omega), if_neg (by omega)]; exact hx
            have hxl : x < 256 := by omega
            have HI := Lib.hid hxi
            have HF := Lib.hid hfq
            have HK := Lib.hid hkx
            clear hfq hkx hx hxi
            go_wp2_with fail
            rw [HI.out]
            refine (get_st x _ HS3.out hxl).mono ?_
            rintro e wa ⟨A1, n1, c1, rfl, hSa⟩
            rw [HK.out, HF.out] at hSa ⊢
            clear HS3
            by_cases hqb : q < bg.length
            · rw [if_pos hqb] at hSa ⊢
              simp only [regOr, Option.getD_some, Option.isSome_some] at hSa ⊢
              have hS4 := hSa.alloc #[.int .i64 1, .slice A1 n1 c1] 24
              obtain ⟨W, hW⟩ : ∃ W, wa.alloc (.cells #[.int .i64 1, .slice A1 n1 c1] 24) = W := ⟨_, rfl⟩
              rw [hW] at hS4
              obtain ⟨t0, t1, _, _⟩ := reg_cells (show W.heap[wa.heap.size]? = some (.cells #[.int .i64 1, .slice A1 n1 c1] 24 (0, 0)) from hS4.i0)
              have hlt1 : wa.heap.size < W.heap.size := heap_lt (show W.heap[wa.heap.size]? = some (.cells #[.int .i64 1, .slice A1 n1 c1] 24 (0, 0)) from hS4.i0)
              obtain ⟨b6, o6, rfl, _, _⟩ := Lines.at hS4.i2 hqb
              have hcb := Lines.cap hS4.i2
              have hcm := Lines.max hS4.i2
              unfold maxLen at hcm
              have hl6 := lines_at hS4.i2 hqb
              have hl1 : Lines W A1 n1 c1 [lat bg q] := hS4.i1
              have hqb2 : (q : Int) < (bg.length : Int) := by omega
              have hq1 : q < c6 := by omega
              have hq2 : (0 : Int) ≤ (q : Int) := by omega
              have hq3 : (q : Int) ≤ (q : Int) + 1 := by omega
              have hq4 : (q : Int) + 1 ≤ (c6 : Int) := by omega
              have hq5 : ¬ c6 = q := by omega
              have hq6 : ¬ q = c6 := by omega
              have hq7 : ¬ (c6 : Int) = (q : Int) := by omega
              have hq8 : IntKind.i64.wrap ((q : Int) + 1) = (q : Int) + 1 := IntWalk.i64_in _ (by omega)
              have hq9 : ((q : Int) + 1).toNat = q + 1 := by omega
              have hq10 : (0 : Int) ≤ (q : Int) + 1 := by omega
              have HS4 := Lib.hid hS4
              have HL6 := Lib.hid hl6
              have HL1 := Lib.hid hl1
              clear hS4 hl6 hl1 hSa
              go_wp2_with fail
              go_region_held3 (fun w' => w'.cell? ⟨wa.heap.size, 1, none⟩ = some (.slice A1 n1 c1)) (first | go_keep | exact (by assumption))
                (first | (go_at_call 20; refine (strings_calls A1 n1 c1 [lat bg q] _ _ _ [lat bg q] _ (HL1.out.only (Only.refl No _).drew (fun _ _ h => h.elim)) (HL6.out.only (Only.refl No _).drew (fun _ _ h => h.elim))).mono ?_; rintro e w1 ⟨rfl, hO1⟩; have k1 := (cell_block (hO1.block (wa.heap.size) hlt1 (fun h => h)) 1).trans t1))
              go_wp2_with fail
              go_roundw
              case rel => exact ⟨q + 1, by first | rfl | (simp; done) | (simp; omega), by omega, (HS4.out.no (((Only.refl No W).drew).trans' hO1)).only (by simp)⟩
              case measure => first | (simp [intOf]; done) | (simp [intOf]; omega)
            · rw [if_neg hqb] at hSa ⊢
              simp only [regOr, Option.getD_none, Option.isSome_none] at hSa ⊢
              have hqb2 : ¬ (q : Int) < (bg.length : Int) := by omega
              have hS4 := hSa.alloc #[.int .i64 0, .slice A1 n1 c1] 24
              have HS4 := Lib.hid hS4
              clear hS4 hSa
              go_wp2_with fail
              go_quiet (fail)
              go_wp2_with fail
              go_roundw
              case rel => exact ⟨q + 1, by first | rfl | (simp; done) | (simp; omega), by omega, (HS4.out.no ((Only.refl No _).drewN _)).only (by simp)⟩
              case measure => first | (simp [intOf]; done) | (simp [intOf]; omega)
          · obtain rfl : q = 9 := by omega
            go_wp2_with fail
            refine (get_st 45 _ HS3.out (by omega)).mono ?_
            rintro e wa ⟨A1, n1, c1, rfl, hSa⟩
            rw [show Rg.keyOf 45 = 45 from rfl, HG.out.2] at hSa ⊢
            clear HS3
            cases la with
            | none =>
              simp only [Option.map_none, regOr, Option.getD_none, Option.isSome_none] at hSa ⊢
              have HS4 := Lib.hid (hSa.alloc #[.int .i64 0, .slice A1 n1 c1] 24)
              clear hSa
              rw [show strOf none = ⟨#[]⟩ from rfl]
              go_wp2_with fail
              go_ret
              exact ⟨rfl, HS4.out.bel⟩
            | some s =>
              simp only [Option.map_some, regOr, Option.getD_some, Option.isSome_some] at hSa ⊢
              have hs2 := HLA.out s rfl
              have he : (s.toList == []) = false := beq_eq_false_iff_ne.2 (full_list hs2)
              have he2 : s.toList.isEmpty = false := by cases e : s.toList with | nil => exact absurd e (full_list hs2) | cons a l => rfl
              have he3 : s ≠ ⟨#[]⟩ := by rintro rfl; cases hs2
              have e0 : strOf (some s) = s := rfl
              rw [e0]
              have HS4 := Lib.hid (((hSa.alloc #[.int .i64 0, .slice A1 n1 c1] 24).alloc #[.string s] 9).add (x := .lines (some ⟨wa.heap.size + 1, 0, none⟩) 1 1 [s]) (lines_one (by simp)))
              clear hSa
              go_wp2_with fail
              refine (strings_calls _ _ _ [s] _ _ _ [s] _ (HS4.out.fs (.lines A1 n1 c1 [s]) (by simp)) HS4.out.i0).mono ?_
              rintro e wb ⟨rfl, hO⟩
              rw [decide_eq_true (rfl : [s] = [s])]
              have HS5 := Lib.hid (HS4.out.no hO)
              clear hO HS4
              go_wp2_with fail
              go_ret
              exact ⟨rfl, HS5.out.bel⟩

theorem walk_any (w : World) {A : Option Addr} {n c : Nat} (k : Int) (hr : ∃ z, Bools w A n c z) (hk : (Lit.int .u8 k).wf = true) :
    Calls Try.prog 4 #[.int .u8 k, .slice A n c] w fun e w' => e = .returned (.bool true) ∧ Below w.heap.size w w' := by
  obtain ⟨z, hz⟩ := hr
  obtain ⟨h1, h2⟩ := bounds_u8 hk
  exact law_any A n c z k w hz h1 h2

open Go.ChangeShapes Go.WideShapes Go.ChangeAt
open Go.ChangeMaps (open_string shut_string)
theorem own : ownKnob Try.prog.godebug = none := by kernel_rfl
theorem laidOut : laidOutB Try.prog = true := by kernel_rfl
set_option maxRecDepth 100000 in
theorem lifted (os : Os) (started : os.Started) (H : Type) (enc : TypeId × Value → H) :
    ReturnsInHanded {} Try.checked os 4 .any (Rows.regsShiftSpec.pre6 enc Try.prog Try.f4 Rows.regsShiftRow.domain false) (Rows.regsShiftSpec.post enc Try.prog Try.f4 false true false false) := by
  refine returnsInHanded_of_change_sized (C := Try.checked) own started (by kernel_rfl) Try.func4
    (ChangeSpec.witness6 (enc := enc) (C := Try.checked) false ⟨#[], #[.int .u8 0, .slice none 0 0], []⟩ 8 (by kernel_rfl) (by kernel_rfl) (by kernel_rfl) (by kernel_rfl)) ?_
  intro W base args ds gs before hval0 hW hcnd hsz0 _
  have hsz : (DataW.weightsEach Try.prog (Try.f4.params.toList ++ Rows.regsShiftSpec.plain.varTypes Try.prog) (ds ++ gs)).all (· ≤ reachBytes) = true := hsz0
  have hval : ∀ (j : Nat) t v, Try.f4.params[j]? = some t → args[j]? = some v → Value.okWide Try.prog W .any base t v := hval0
  have hW' := hW
  obtain ⟨p, q, hA0, hV, rfl, hfz, hnd⟩ := hW
  have hA : DataW.TrodAll enc Try.prog W 0 (fun _ => true) true Try.f4.params.toList args.toList ds p := hA0
  rw [Try.params4] at hA hval hsz
  obtain ⟨v0, vs0, d0, ds0, p0, q0, hargs, rfl, rfl, h0, r0⟩ := trodAll_cons hA
  obtain ⟨v1, vs1, d1, ds1, p1, q1, rfl, rfl, rfl, h1, r1⟩ := trodAll_cons r0
  obtain ⟨rfl, rfl, rfl⟩ := trodAll_nil r1
  obtain rfl : args = #[v0, v1] := by cases args; simp_all
  obtain ⟨rfl, rfl⟩ := trodVars_none hV
  obtain ⟨a0, rfl, rfl, rfl, w0⟩ := open_int Try.underlying5 (hval 0 5 v0 rfl rfl) h0
  obtain ⟨A1, n1, c1, rfl⟩ := okWide_slice Try.underlying31 (hval 1 31 v1 rfl rfl)
  have k1 := h1
  have lt1 : ∀ x ∈ p1, x.block < W.heap.size := by obtain ⟨m, hm⟩ := k1; exact DataW.trod_lt m _ _ _ hm
  have hr1 := bools_arg Try.underlying31 h1
  clear hA0 hval0 hsz0
  refine (walk_any W _ hr1 w0).mono fun e W' ⟨he, bel⟩ => ?_
  subst he
  exact ⟨_, rfl, _, _, _, [], _, [], hW', trodAll_mk1 (shut_bool Try.underlying4 _), (trodAll_cons_mk (shut_int Try.underlying5 w0) (trodAll_cons_mk (Below.trod laidOut (by kernel_rfl) (of_decide_eq_true (by kernel_rfl)) k1 bel lt1) trodAll_mk0)), rfl, bel.frame _, fun h => by cases h⟩
theorem over : Rows.regsShiftRow.holds Try.pinned (OpenSpec.ofChange Rows.regsShiftSpec) :=
  OpenClaim.holds_of_wide 4 Try.f4 rfl rfl rfl rfl rfl rfl rfl ⟨rfl, rfl, rfl, rfl, rfl⟩ rfl rfl rfl rfl rfl (by kernel_rfl) Try.func4 (by kernel_rfl)
    (of_decide_eq_true (by kernel_rfl)) (by unfold Func.isWrapper; first | (rw [if_pos (by decide +kernel)]; kernel_rfl) | (rw [if_neg (by decide +kernel)]; exact ⟨rfl, rfl⟩))
    (fun os started H enc _ => lifted os started H enc)
end Go.Proofs.Ytgdlplkeafeblaa.regsShift
namespace Go.Proofs.Ytgdlplkeafeblaa
theorem regsShift_holds : Rows.RegsShiftSaid := regsShift.over
#print axioms regsShift_holds
end Go.Proofs.Ytgdlplkeafeblaa
