/- RegsYank: a yank is 0, and cuts leave it as it is, up to the next one; proved for every input, under no condition. -/
import Derived.Test.YtgdlplkeafeblaaRows
import Derived.Test.YtgdlplkeafeblaaRegsKnown
import Derived.Test.YtgdlplkeafeblaaArgs2
import Derived.Laws.BytesString
import Derived.Laws.BytesArg
import Derived.WalkKit
import Derived.ProofKit
import Derived.OpenShut
import Derived.ChangeOld
import Derived.SizedLaws
namespace Go.Proofs.Ytgdlplkeafeblaa.regsYank
open Go.RowKit Go.Shelf Go.Proofs.Ytgdlplkeafeblaa.MapRaw Go.Proofs.Ytgdlplkeafeblaa.Frm Go.Proofs.Ytgdlplkeafeblaa.Lns Go.Proofs.Ytgdlplkeafeblaa.Rg Go.Proofs.Ytgdlplkeafeblaa.Arg
set_option linter.unusedVariables false
set_option linter.unusedSimpArgs false

/-- The string of bytes. -/
def ofInts (ns : List Int) : ByteArray := ns.foldl (fun r n => r.push (UInt8.ofNat n.toNat)) ByteArray.empty
theorem ofInts_size (ns : List Int) : (ofInts ns).size = ns.length := by
  unfold ofInts
  rw [foldl_push_bytes]
  have : ∀ (l : List UInt8), (⟨ByteArray.empty.data ++ l.toArray⟩ : ByteArray).size = l.length := fun l => by
    show (ByteArray.empty.data ++ l.toArray).size = l.length
    rw [Array.size_append]
    simp [ByteArray.empty, ByteArray.emptyWithCapacity]
    first | done | rfl
  rw [this, List.length_map]
theorem keep {w w' : World} (ho : Only No w w') {p : Nat} {o : Obj} (h : w.heap[p]? = some o) : w'.heap[p]? = some o := (ho.block p (heap_lt h) (fun h => h)).trans h
theorem regCell {w w' : World} {B M p : Nat} {f : Nat → Option Reg} (h : At w B M f) (ho : Only (fun b => b = M) w w') {cs : Array Value} {t : TypeId} {fr : Nat × Nat} (hp : w.heap[p]? = some (.cells cs t fr)) : w'.heap[p]? = some (.cells cs t fr) := by
  refine (ho.block p (heap_lt hp) (fun e => ?_)).trans hp
  obtain ⟨g, hg, _⟩ := h.map
  obtain ⟨es, clock, h3⟩ := hg.is_map
  rw [← e, hp] at h3
  cases h3
theorem cut48 (f : Nat → Option Reg) (r : Reg) : updR (cutF f r) 34 (some r) 48 = f 48 := by
  unfold updR
  rw [if_neg (by decide)]
  unfold cutF
  split
  · unfold updR; rw [if_neg (by decide)]
  · unfold updR; rw [if_neg (by decide), shiftTo_at _ _ _ (by decide)]
theorem setE_plain {f : Nat → Option Reg} {n : Nat} {r : Reg} (hn : n = 0 ∨ n = 34) (h : sizeL r.2 ≤ 4096) : setE f n r = 0 := by
  unfold setE
  rw [if_neg (by omega), if_pos (by rcases hn with rfl | rfl <;> rfl), if_neg (by omega)]
theorem setF_plain {f f' : Nat → Option Reg} {n : Nat} {r : Reg} (hn : n = 0 ∨ n = 34) (h : sizeL r.2 ≤ 4096) : setF f f' n r = updR f' 34 (some r) := by
  unfold setF
  rw [if_neg (by omega), if_pos (by rcases hn with rfl | rfl <;> rfl), if_neg (by omega)]
theorem store_heap {w : World} {g : Nat} {a b x y : Value} {t : TypeId} (h : w.heap[g]? = some (.cells #[a, b] t (0, 0))) : ((w.setCell ⟨g, 0, none⟩ x).setCell ⟨g, 1, none⟩ y).heap[g]? = some (.cells #[x, y] t (0, 0)) := by
  simp [World.setCell, Array.getElem?_modify, h]
theorem stepP {w w' : World} {B M p : Nat} {f : Nat → Option Reg} {k0 : Int} {A0 : Option Addr} {n0 c0 : Nat} (h : At w B M f) (hp : w.heap[p]? = some (.cells #[.int .i64 k0, .slice A0 n0 c0] 24 (0, 0))) (ho : Only (fun b => b = p) w w') : At w' B M f := by
  refine h.only ho (fun b _ e => by subst e; exact bare_cells hp (fun o s => by rcases o with _ | _ | o <;> simp)) (fun e => ?_) (fun e => ?_)
  · have hb := h.box
    rw [e, hp] at hb
    simp at hb
  · obtain ⟨g, hg, _⟩ := h.map
    obtain ⟨es, clock, h3⟩ := hg.is_map
    rw [e, hp] at h3
    cases h3
theorem run_two (w : World) (x k : Int) : (convert 34 9 (.slice (some ⟨w.heap.size, 0, none⟩) 2 2)).run Try.prog (w.alloc (.cells #[.int .u8 x, .int .u8 k] 5)) = .ok (.string (ofInts [x, k])) (w.alloc (.cells #[.int .u8 x, .int .u8 k] 5)) := by
  have hl := run_loadCells_list (P := Try.prog) (w := w.alloc (.cells #[.int .u8 x, .int .u8 k] 5)) ⟨w.heap.size, 0, none⟩ [.int .u8 x, .int .u8 k] (fun j v hj => by
    rw [add_plain, cell_new, Nat.zero_add]
    rcases j with _ | _ | j
    · exact hj
    · exact hj
    · simp at hj)
  rw [run_convert_bytes_string _ 34 9 5 _ _ _ Try.underlying34 Try.underlying5 Try.underlying9, run_bytesToString _ _ 2 2 [x, k] hl]
  rfl

set_option maxHeartbeats 8000000 in
set_option maxRecDepth 100000 in
theorem law_any (A : Option Addr) (n c : Nat) (z : Nat → Bool) (k : Int) (w : World) (hz : Bools w A n c z) (hk0 : 0 ≤ k) (hk1 : k ≤ 255) :
    Calls Try.prog 9 #[.slice A n c, .int .u8 k] w fun e w' => e = .returned (.bool true) ∧ Below w.heap.size w w' := by
  have HZ := Lib.hid hz
  clear hz
  by_cases hn : 30 < n
  · have g : (30 : Int) < (n : Int) := by omega
    go_enter Try.func9, Try.ntmps9
    go_wp2_with (go_at_call 10; refine (known_calls _).mono ?_; rintro e w1 ⟨rfl, hb⟩)
    go_ret
    exact ⟨rfl, hb⟩
  · have g : ¬ (30 : Int) < (n : Int) := by omega
    go_enter Try.func9, Try.ntmps9
    go_wp2_with (go_at_call 10; refine (known_calls _).mono ?_; rintro e w1 ⟨rfl, hb⟩)
    refine (new_calls _).mono ?_
    rintro e w2 ⟨rfl, hA2, hO2⟩
    go_wp2_with fail
    have hx := (Only.refl No w2).alloc (.cells #[.int .i64 0, .slice none 0 0] 24)
    have hA3 := hA2.no hx
    have hf3 := alloc_new w2 (.cells #[.int .i64 0, .slice none 0 0] 24)
    have hs1 := hb.size
    have hB3 := hb.trans ((hO2.trans' hx).below (B := w.heap.size) hs1 (fun k h => h.elim))
    have hs2 := hO2.size
    have hM2 := hA2.lt
    obtain ⟨p, hp⟩ : ∃ p, w2.heap.size = p := ⟨_, rfl⟩
    obtain ⟨M, hM⟩ : ∃ p, w1.heap.size = p := ⟨_, rfl⟩
    rw [hp] at hf3 hs2 hM2
    rw [hM] at hA3 hs1 hs2 hM2
    rw [hp, hM]
    clear hA2 hO2 hx hb hM hp
    go_loopw [7, 8, 9, 10, 11, 12, 13] (fun hd i _ _ _ _ _ wr => ∃ (j : Nat) (h : Bool) (f : Nat → Option Reg) (last : Reg) (A6 : Option Addr) (n6 c6 : Nat), hd = .bool h ∧ i = .int .i64 (j : Int) ∧ j ≤ n ∧ At wr (M + 1) M f ∧ Bd f ∧ f 48 = (if h = true then some last else none) ∧ wr.heap[p]? = some (.cells #[.int .i64 last.1, .slice A6 n6 c6] 24 (0, 0)) ∧ Lines wr A6 n6 c6 last.2 ∧ Below w.heap.size w wr) (fun _ i _ _ _ _ _ _ => n - (intOf i).toNat)
    case atStart => exact ⟨0, false, _, (0, []), none, 0, 0, rfl, rfl, by omega, hA3, bd_none, rfl, hf3, ⟨rfl, Nat.le_refl _, Nat.zero_le _, fun _ => rfl, .inl rfl⟩, hB3⟩
    case round =>
      obtain ⟨j, h, f, last, A6, n6, c6, rfl, rfl, hj, hA, hBd, h48, hf, hL, hB⟩ := hrel
      clear hA3 hB3 hf3
      by_cases hlt : j < n
      · obtain ⟨b, off, rfl, hbb, hcell⟩ : ∃ b off, A = some ⟨b, off, none⟩ ∧ b < w.heap.size ∧ ∀ i, i < n → w.cell? ⟨b, off + i, none⟩ = some (.bool (z i)) := HZ.out.cells.resolve_left (by omega)
        have hcz := hcell j hlt
        clear hcell
        have HA := Lib.hid hA
        have HL := Lib.hid hL
        have HF := Lib.hid hf
        have HB := Lib.hid hB
        clear hA hL hf hB
        have hconv := run_two wr (97 + (j : Int) % 26) k
        cases hzj : z j
        · rw [hzj] at hcz
          obtain ⟨sj, hsj⟩ : ∃ sj, ofInts [97 + (j : Int) % 26, k] = sj := ⟨_, rfl⟩
          have hsz : sj.size = 2 := by rw [← hsj, ofInts_size]; rfl
          rw [hsj] at hconv
          clear hsj
          obtain ⟨W, hW⟩ : ∃ W, ((wr.alloc (.cells #[.int .u8 (97 + (j : Int) % 26), .int .u8 k] 5)).alloc (.cells #[.string sj] 9)).alloc (.cells #[.int .i64 ((j : Int) % 3), .slice (some ⟨wr.heap.size + 1, 0, none⟩) 1 1] 24) = W := ⟨_, rfl⟩
          have hOW : Only No wr W := by rw [← hW]; exact (((Only.refl _ _).alloc _).alloc _).alloc _
          have hcW : W.cell? ⟨b, off + j, none⟩ = some (.bool false) := ((HB.out.trans (hOW.below (B := w.heap.size) HB.out.size (fun k h => h.elim))).cell (p := ⟨b, off + j, none⟩) hbb).trans hcz
          obtain ⟨r, hr⟩ : ∃ r : Reg, r = ((j : Int) % 3, [sj]) := ⟨_, rfl⟩
          have hr1 : r.1 = (j : Int) % 3 := by rw [hr]
          have hrs : sizeL r.2 = 3 := by rw [hr]; simp [sizeL, hsz]
          have hf9 : W.heap[wr.heap.size + 1 + 1]? = some (.cells #[.int .i64 ((j : Int) % 3), .slice (some ⟨wr.heap.size + 1, 0, none⟩) 1 1] 24 (0, 0)) := by rw [← hW]; exact alloc_at (by simp) _
          have hl9 : Lines W (some ⟨wr.heap.size + 1, 0, none⟩) 1 1 r.2 := by rw [← hW, hr]; exact (lines_one (by simp)).only ((Only.refl No _).alloc _) (fun _ _ h => h.elim)
          obtain ⟨q, hq⟩ : ∃ q, wr.heap.size + 1 + 1 = q := ⟨_, rfl⟩
          rw [hq] at hf9
          obtain ⟨y0, y1, _, _⟩ := reg_cells hf9
          have hAW := HA.out.no hOW
          have HFW := Lib.hid (keep hOW HF.out)
          have HLW := Lib.hid (HL.out.only hOW (fun _ _ h => h.elim))
          have HAW := Lib.hid hAW
          have HF9 := Lib.hid hf9
          have HL9 := Lib.hid hl9
          have HBW := Lib.hid (HB.out.trans (hOW.below (B := w.heap.size) HB.out.size (fun k h => h.elim)))
          have h48' := cut48 f r
          clear hf9 hl9 hAW hOW HA HF HL HB hr hsz
          go_wp2_with fail
          refine (cut_calls (M + 1) M f 34 _ r _ HAW.out ⟨_, _, _, by rw [hr1], HL9.out⟩ (by omega) (by omega) hBd).mono ?_
          rintro e wy ⟨rfl, hAy, hOy⟩
          rw [setE_plain (.inr rfl) (by omega)]
          rw [setF_plain (.inr rfl) (by omega)] at hAy
          have hbareM : ∀ b, b < W.heap.size → b = M → Bare W b := fun b _ e => by subst e; exact HAW.out.bare
          have HFy := Lib.hid (regCell HAW.out hOy HFW.out)
          have HF9y := Lib.hid (regCell HAW.out hOy HF9.out)
          have HLy := Lib.hid (HLW.out.only hOy hbareM)
          have HL9y := Lib.hid (HL9.out.only hOy hbareM)
          have HBy := Lib.hid (HBW.out.trans (hOy.below (B := w.heap.size) HBW.out.size (fun k h => by omega)))
          have gk34 : updR (cutF f r) 34 (some r) (Rg.keyOf 0) = some r := by simp [Rg.keyOf, updR]
          have gk48 : updR (cutF f r) 34 (some r) (Rg.keyOf 48) = if h = true then some last else none := by rw [show Rg.keyOf 48 = 48 from rfl]; exact h48'.trans h48
          have bd5 : Bd (updR (cutF f r) 34 (some r)) := bd_upd (bd_cutF hBd (by omega)) (by omega)
          generalize updR (cutF f r) 34 (some r) = f5 at *
          clear h48' h48 hBd hbareM HAW HFW HF9 HLW HL9 HBW y0 y1 hcW hconv hW
          have HAy := Lib.hid hAy
          obtain ⟨lo, hlo⟩ : ∃ lo : Option Reg, (if h = true then some last else none) = lo := ⟨_, rfl⟩
          rw [hlo] at gk48
          have hso : lo.isSome = h := by rw [← hlo]; cases h <;> rfl
          have Hlo := Lib.hid hlo
          clear hlo
          have gl34 : (regOr (f5 (Rg.keyOf 0))).2.length ≤ 1099511627776 := by rw [gk34]; have := length_le_sizeL r.2; simp only [regOr, Option.getD_some]; omega
          clear hAy hOy
          go_wp2_with fail
          refine (get_calls (M + 1) M f5 0 _ HAy.out (by omega) gl34).mono ?_
          rintro e wz ⟨u, rfl, hu, hOz⟩
          rw [gk34] at hu
          rw [gk34]
          simp only [regOr, Option.getD_some, Option.isSome_some] at hu ⊢
          obtain ⟨A1, n1, m1, rfl, hl1⟩ := hu
          rw [hr1]
          have hx1 := (Only.refl No wz).alloc (.cells #[.int .i64 ((j : Int) % 3), .slice A1 n1 m1] 24)
          have hO1 := hOz.trans' hx1
          have HAz := Lib.hid (HAy.out.no hO1)
          have HU := Lib.hid (alloc_new wz (.cells #[.int .i64 ((j : Int) % 3), .slice A1 n1 m1] 24))
          have HUl := Lib.hid (hl1.only hx1 (fun _ _ h => h.elim))
          have HF9z := Lib.hid (keep hO1 HF9y.out)
          have HL9z := Lib.hid (HL9y.out.only hO1 (fun _ _ h => h.elim))
          have HFz := Lib.hid (keep hO1 HFy.out)
          have HLz := Lib.hid (HLy.out.only hO1 (fun _ _ h => h.elim))
          have HBz := Lib.hid (HBy.out.trans (hO1.below (B := w.heap.size) HBy.out.size (fun k h => h.elim)))
          clear hl1 hOz hx1 hO1 HAy HF9y HL9y HFy HLy HBy
          have gl48 : (regOr (f5 (Rg.keyOf 48))).2.length ≤ 1099511627776 := by
            cases e9 : f5 (Rg.keyOf 48) with
            | none => simp [regOr]
            | some q9 => have := bd5 _ _ e9; have := length_le_sizeL q9.2; simp only [regOr, Option.getD_some]; omega
          go_wp2_with fail
          refine (get_calls (M + 1) M f5 48 _ HAz.out (by omega) gl48).mono ?_
          rintro e wq ⟨u, rfl, hu, hOq⟩
          rw [gk48] at hu
          rw [gk48, hso]
          obtain ⟨A2, n2, m2, rfl, hl2⟩ := hu
          have hx2 := (Only.refl No wq).alloc (.cells #[.int .i64 (regOr lo).1, .slice A2 n2 m2] 24)
          have hO2 := hOq.trans' hx2
          have HAq := Lib.hid (HAz.out.no hO2)
          have hfu := keep hO2 HU.out
          have hf9q := keep hO2 HF9z.out
          have hfq := keep hO2 HFz.out
          have hfz := alloc_new wq (.cells #[.int .i64 (regOr lo).1, .slice A2 n2 m2] 24)
          have HUlq := Lib.hid (HUl.out.only hO2 (fun _ _ h => h.elim))
          have HZl := Lib.hid (hl2.only hx2 (fun _ _ h => h.elim))
          have HL9q := Lib.hid (HL9z.out.only hO2 (fun _ _ h => h.elim))
          have HLq := Lib.hid (HLz.out.only hO2 (fun _ _ h => h.elim))
          have HBq := Lib.hid (HBz.out.trans (hO2.below (B := w.heap.size) HBz.out.size (fun k h => h.elim)))
          obtain ⟨t0, t1, _, _⟩ := reg_cells hfu
          obtain ⟨t2, t3, _, _⟩ := reg_cells hf9q
          have HFq := Lib.hid hfq
          have HFZq := Lib.hid hfz
          clear hfu hf9q hfq hfz hl2 hOq hx2 hO2 HAz HU HUl HF9z HL9z HFz HLz HBz
          go_wp2_with fail
          refine (reg_calls _ _ r r _ ⟨A1, n1, m1, by rw [hr1], HUlq.out⟩ ⟨_, _, _, by rw [hr1], HL9q.out⟩).mono ?_
          rintro e wt ⟨rfl, hOt⟩
          rw [decide_eq_true (rfl : r = r)]
          have HAt := Lib.hid (HAq.out.no hOt)
          have HFt := Lib.hid (keep hOt HFq.out)
          have HLt := Lib.hid (HLq.out.only hOt (fun _ _ h => h.elim))
          have HZt := Lib.hid (HZl.out.only hOt (fun _ _ h => h.elim))
          have HBt := Lib.hid (HBq.out.trans (hOt.below (B := w.heap.size) HBq.out.size (fun k h => h.elim)))
          clear t0 t1 t2 t3
          obtain ⟨t0, t1, _, _⟩ := reg_cells (keep hOt HFZq.out)
          obtain ⟨t2, t3, _, _⟩ := reg_cells HFt.out
          clear hOt HFq HLq HZl HBq HAq HFZq
          cases h with
          | false =>
            have hlo := Hlo.out
            simp only [Bool.false_eq_true, if_false] at hlo
            subst hlo
            go_wp2_with fail
            go_roundw
            case rel => exact ⟨j + 1, false, f5, last, A6, n6, c6, rfl, by first | rfl | (simp; done) | (simp; omega), by omega, HAt.out, bd5, gk48, HFt.out, HLt.out, HBt.out⟩
            case measure => first | (simp [intOf]; done) | (simp [intOf]; omega)
          | true =>
            have hlo := Hlo.out
            simp only [if_true] at hlo
            subst hlo
            simp only [regOr, Option.getD_some] at t0 t1 HZt
            go_wp2_with fail
            refine (reg_calls _ _ last last _ ⟨A2, n2, m2, rfl, HZt.out⟩ ⟨_, _, _, rfl, HLt.out⟩).mono ?_
            rintro e wv ⟨rfl, hOv⟩
            rw [decide_eq_true (rfl : last = last)]
            have HAv := Lib.hid (HAt.out.no hOv)
            have HFv := Lib.hid (keep hOv HFt.out)
            have HLv := Lib.hid (HLt.out.only hOv (fun _ _ h => h.elim))
            have HBv := Lib.hid (HBt.out.trans (hOv.below (B := w.heap.size) HBt.out.size (fun k h => h.elim)))
            clear hOv
            go_wp2_with fail
            go_roundw
            case rel => exact ⟨j + 1, true, f5, last, A6, n6, c6, rfl, by first | rfl | (simp; done) | (simp; omega), by omega, HAv.out, bd5, gk48, HFv.out, HLv.out, HBv.out⟩
            case measure => first | (simp [intOf]; done) | (simp [intOf]; omega)
        · rw [hzj] at hcz
          obtain ⟨sj, hsj⟩ : ∃ sj, ofInts [97 + (j : Int) % 26, k] = sj := ⟨_, rfl⟩
          have hsz : sj.size = 2 := by rw [← hsj, ofInts_size]; rfl
          rw [hsj] at hconv
          clear hsj
          obtain ⟨W, hW⟩ : ∃ W, ((wr.alloc (.cells #[.int .u8 (97 + (j : Int) % 26), .int .u8 k] 5)).alloc (.cells #[.string sj] 9)).alloc (.cells #[.int .i64 ((j : Int) % 3), .slice (some ⟨wr.heap.size + 1, 0, none⟩) 1 1] 24) = W := ⟨_, rfl⟩
          have hOW : Only No wr W := by rw [← hW]; exact (((Only.refl _ _).alloc _).alloc _).alloc _
          have hcW : W.cell? ⟨b, off + j, none⟩ = some (.bool true) := ((HB.out.trans (hOW.below (B := w.heap.size) HB.out.size (fun k h => h.elim))).cell (p := ⟨b, off + j, none⟩) hbb).trans hcz
          obtain ⟨r, hr⟩ : ∃ r : Reg, r = ((j : Int) % 3, [sj]) := ⟨_, rfl⟩
          have hr1 : r.1 = (j : Int) % 3 := by rw [hr]
          have hrs : sizeL r.2 = 3 := by rw [hr]; simp [sizeL, hsz]
          have hf9 : W.heap[wr.heap.size + 1 + 1]? = some (.cells #[.int .i64 ((j : Int) % 3), .slice (some ⟨wr.heap.size + 1, 0, none⟩) 1 1] 24 (0, 0)) := by rw [← hW]; exact alloc_at (by simp) _
          have hl9 : Lines W (some ⟨wr.heap.size + 1, 0, none⟩) 1 1 r.2 := by rw [← hW, hr]; exact (lines_one (by simp)).only ((Only.refl No _).alloc _) (fun _ _ h => h.elim)
          have hpl := heap_lt HF.out
          obtain ⟨q, hq⟩ : ∃ q, wr.heap.size + 1 + 1 = q := ⟨_, rfl⟩
          rw [hq] at hf9
          obtain ⟨y0, y1, _, _⟩ := reg_cells hf9
          have hAW := HA.out.no hOW
          have HFW := Lib.hid (keep hOW HF.out)
          have HLW := Lib.hid (HL.out.only hOW (fun _ _ h => h.elim))
          have HAW := Lib.hid hAW
          have HF9 := Lib.hid hf9
          have HL9 := Lib.hid hl9
          have HBW := Lib.hid (HB.out.trans (hOW.below (B := w.heap.size) HB.out.size (fun k h => h.elim)))
          clear hf9 hl9 hAW hOW HA HF HL HB hr hsz
          have hpq : p ≠ q := by omega
          obtain ⟨x0, x1, x2, x3⟩ := reg_cells HFW.out
          have hst := store_heap (x := .int .i64 ((j : Int) % 3)) (y := .slice (some ⟨wr.heap.size + 1, 0, none⟩) 1 1) HFW.out
          have hoS := only_two W p (.int .i64 ((j : Int) % 3)) (.slice (some ⟨wr.heap.size + 1, 0, none⟩) 1 1)
          have hbp : ∀ b, b < W.heap.size → b = p → Bare W b := fun b _ e => by subst e; exact bare_cells HFW.out (fun o s => by rcases o with _ | _ | o <;> simp)
          have HAS := Lib.hid (stepP HAW.out HFW.out hoS)
          have HLS := Lib.hid (HL9.out.only hoS hbp)
          have HFS := Lib.hid hst
          have HF9S := Lib.hid ((hoS.block q (heap_lt HF9.out) (fun e => hpq e.symm)).trans HF9.out)
          have HBS := Lib.hid (HBW.out.trans (hoS.below (B := w.heap.size) HBW.out.size (fun k h => by omega)))
          clear hst hoS hbp
          go_wp2_with fail
          refine (yank_calls (M + 1) M f 0 _ r _ HAS.out ⟨_, _, _, by rw [hr1], HLS.out⟩ (by omega) (by omega) hBd).mono ?_
          rintro e wy ⟨rfl, hAy, hOy⟩
          rw [setE_plain (.inl rfl) (by omega)]
          rw [setF_plain (.inl rfl) (by omega)] at hAy
          have HFy := Lib.hid (regCell HAS.out hOy HFS.out)
          rw [← hr1] at HFy
          have HF9y := Lib.hid (regCell HAS.out hOy HF9S.out)
          have HLy := Lib.hid (HLS.out.only hOy (fun b _ e => by subst e; exact HAS.out.bare))
          have HL9y := Lib.hid (HLS.out.only hOy (fun b _ e => by subst e; exact HAS.out.bare))
          have HBy := Lib.hid (HBS.out.trans (hOy.below (B := w.heap.size) HBS.out.size (fun k h => by omega)))
          have gk34 : updR (updR f 48 (some r)) 34 (some r) (Rg.keyOf 0) = some r := by simp [Rg.keyOf, updR]
          have gk48 : updR (updR f 48 (some r)) 34 (some r) (Rg.keyOf 48) = if true = true then some r else none := by rw [show Rg.keyOf 48 = 48 from rfl]; simp [updR]
          have bd5 : Bd (updR (updR f 48 (some r)) 34 (some r)) := bd_upd (bd_upd hBd (by omega)) (by omega)
          generalize updR (updR f 48 (some r)) 34 (some r) = f5 at *
          clear h48 hBd HAW HFW HF9 HLW HL9 HBW y0 y1 x0 x1 x2 x3 hcW hconv hW HAS HLS HFS HF9S HBS
          have HAy := Lib.hid hAy
          obtain ⟨lo, hlo⟩ : ∃ lo : Option Reg, (if true = true then some r else none) = lo := ⟨_, rfl⟩
          rw [hlo] at gk48
          have hso : lo.isSome = true := by rw [← hlo]; rfl
          have Hlo := Lib.hid hlo
          clear hlo
          have gl34 : (regOr (f5 (Rg.keyOf 0))).2.length ≤ 1099511627776 := by rw [gk34]; have := length_le_sizeL r.2; simp only [regOr, Option.getD_some]; omega
          clear hAy hOy
          go_wp2_with fail
          refine (get_calls (M + 1) M f5 0 _ HAy.out (by omega) gl34).mono ?_
          rintro e wz ⟨u, rfl, hu, hOz⟩
          rw [gk34] at hu
          rw [gk34]
          simp only [regOr, Option.getD_some, Option.isSome_some] at hu ⊢
          obtain ⟨A1, n1, m1, rfl, hl1⟩ := hu
          rw [hr1]
          have hx1 := (Only.refl No wz).alloc (.cells #[.int .i64 ((j : Int) % 3), .slice A1 n1 m1] 24)
          have hO1 := hOz.trans' hx1
          have HAz := Lib.hid (HAy.out.no hO1)
          have HU := Lib.hid (alloc_new wz (.cells #[.int .i64 ((j : Int) % 3), .slice A1 n1 m1] 24))
          have HUl := Lib.hid (hl1.only hx1 (fun _ _ h => h.elim))
          have HF9z := Lib.hid (keep hO1 HF9y.out)
          have HL9z := Lib.hid (HL9y.out.only hO1 (fun _ _ h => h.elim))
          have HFz := Lib.hid (keep hO1 HFy.out)
          have HLz := Lib.hid (HLy.out.only hO1 (fun _ _ h => h.elim))
          have HBz := Lib.hid (HBy.out.trans (hO1.below (B := w.heap.size) HBy.out.size (fun k h => h.elim)))
          clear hl1 hOz hx1 hO1 HAy HF9y HL9y HFy HLy HBy
          have gl48 : (regOr (f5 (Rg.keyOf 48))).2.length ≤ 1099511627776 := by
            cases e9 : f5 (Rg.keyOf 48) with
            | none => simp [regOr]
            | some q9 => have := bd5 _ _ e9; have := length_le_sizeL q9.2; simp only [regOr, Option.getD_some]; omega
          go_wp2_with fail
          refine (get_calls (M + 1) M f5 48 _ HAz.out (by omega) gl48).mono ?_
          rintro e wq ⟨u, rfl, hu, hOq⟩
          rw [gk48] at hu
          rw [gk48, hso]
          obtain ⟨A2, n2, m2, rfl, hl2⟩ := hu
          have hx2 := (Only.refl No wq).alloc (.cells #[.int .i64 (regOr lo).1, .slice A2 n2 m2] 24)
          have hO2 := hOq.trans' hx2
          have HAq := Lib.hid (HAz.out.no hO2)
          have hfu := keep hO2 HU.out
          have hf9q := keep hO2 HF9z.out
          have hfq := keep hO2 HFz.out
          have hfz := alloc_new wq (.cells #[.int .i64 (regOr lo).1, .slice A2 n2 m2] 24)
          have HUlq := Lib.hid (HUl.out.only hO2 (fun _ _ h => h.elim))
          have HZl := Lib.hid (hl2.only hx2 (fun _ _ h => h.elim))
          have HL9q := Lib.hid (HL9z.out.only hO2 (fun _ _ h => h.elim))
          have HLq := Lib.hid (HLz.out.only hO2 (fun _ _ h => h.elim))
          have HBq := Lib.hid (HBz.out.trans (hO2.below (B := w.heap.size) HBz.out.size (fun k h => h.elim)))
          obtain ⟨t0, t1, _, _⟩ := reg_cells hfu
          obtain ⟨t2, t3, _, _⟩ := reg_cells hf9q
          have HFq := Lib.hid hfq
          have HFZq := Lib.hid hfz
          clear hfu hf9q hfq hfz hl2 hOq hx2 hO2 HAz HU HUl HF9z HL9z HFz HLz HBz
          go_wp2_with fail
          refine (reg_calls _ _ r r _ ⟨A1, n1, m1, by rw [hr1], HUlq.out⟩ ⟨_, _, _, by rw [hr1], HL9q.out⟩).mono ?_
          rintro e wt ⟨rfl, hOt⟩
          rw [decide_eq_true (rfl : r = r)]
          have HAt := Lib.hid (HAq.out.no hOt)
          have HFt := Lib.hid (keep hOt HFq.out)
          have HLt := Lib.hid (HLq.out.only hOt (fun _ _ h => h.elim))
          have HZt := Lib.hid (HZl.out.only hOt (fun _ _ h => h.elim))
          have HBt := Lib.hid (HBq.out.trans (hOt.below (B := w.heap.size) HBq.out.size (fun k h => h.elim)))
          clear t0 t1 t2 t3
          obtain ⟨t0, t1, _, _⟩ := reg_cells (keep hOt HFZq.out)
          obtain ⟨t2, t3, _, _⟩ := reg_cells HFt.out
          clear hOt HFq HLq HZl HBq HAq HFZq
          have hlo := Hlo.out
          simp only [if_true] at hlo
          subst hlo
          simp only [regOr, Option.getD_some] at t0 t1 HZt
          go_wp2_with fail
          refine (reg_calls _ _ r r _ ⟨A2, n2, m2, by rw [hr1], HZt.out⟩ ⟨_, _, _, by rw [hr1], HLt.out⟩).mono ?_
          rintro e wv ⟨rfl, hOv⟩
          rw [decide_eq_true (rfl : r = r)]
          have HAv := Lib.hid (HAt.out.no hOv)
          have HFv := Lib.hid (keep hOv HFt.out)
          have HLv := Lib.hid (HLt.out.only hOv (fun _ _ h => h.elim))
          have HBv := Lib.hid (HBt.out.trans (hOv.below (B := w.heap.size) HBt.out.size (fun k h => h.elim)))
          clear hOv
          go_wp2_with fail
          go_roundw
          case rel => exact ⟨j + 1, true, f5, r, some ⟨wr.heap.size + 1, 0, none⟩, 1, 1, rfl, by first | rfl | (simp; done) | (simp; omega), by omega, HAv.out, bd5, gk48, HFv.out, HLv.out, HBv.out⟩
          case measure => first | (simp [intOf]; done) | (simp [intOf]; omega)
      · obtain rfl : j = n := by omega
        go_wp2
        go_ret
        exact ⟨rfl, hB⟩

theorem walk_any (w : World) {A : Option Addr} {n c : Nat} (hr : ∃ z, Bools w A n c z) (k : Int) (hk : (Lit.int .u8 k).wf = true) :
    Calls Try.prog 9 #[.slice A n c, .int .u8 k] w fun e w' => e = .returned (.bool true) ∧ Below w.heap.size w w' := by
  obtain ⟨z, hz⟩ := hr
  obtain ⟨h1, h2⟩ := bounds_u8 hk
  exact law_any A n c z k w hz h1 h2

open Go.ChangeShapes Go.WideShapes Go.ChangeAt
open Go.ChangeMaps (open_string shut_string)
theorem own : ownKnob Try.prog.godebug = none := by kernel_rfl
theorem laidOut : laidOutB Try.prog = true := by kernel_rfl
set_option maxRecDepth 100000 in
theorem lifted (os : Os) (started : os.Started) (H : Type) (enc : TypeId × Value → H) :
    ReturnsInHanded {} Try.checked os 9 .any (Rows.regsYankSpec.pre6 enc Try.prog Try.f9 Rows.regsYankRow.domain false) (Rows.regsYankSpec.post enc Try.prog Try.f9 false true false false) := by
  refine returnsInHanded_of_change_sized (C := Try.checked) own started (by kernel_rfl) Try.func9
    (ChangeSpec.witness6 (enc := enc) (C := Try.checked) false ⟨#[], #[.slice none 0 0, .int .u8 0], []⟩ 8 (by kernel_rfl) (by kernel_rfl) (by kernel_rfl) (by kernel_rfl)) ?_
  intro W base args ds gs before hval0 hW hcnd hsz0 _
  have hsz : (DataW.weightsEach Try.prog (Try.f9.params.toList ++ Rows.regsYankSpec.plain.varTypes Try.prog) (ds ++ gs)).all (· ≤ reachBytes) = true := hsz0
  have hval : ∀ (j : Nat) t v, Try.f9.params[j]? = some t → args[j]? = some v → Value.okWide Try.prog W .any base t v := hval0
  have hW' := hW
  obtain ⟨p, q, hA0, hV, rfl, hfz, hnd⟩ := hW
  have hA : DataW.TrodAll enc Try.prog W 0 (fun _ => true) true Try.f9.params.toList args.toList ds p := hA0
  rw [Try.params9] at hA hval hsz
  obtain ⟨v0, vs0, d0, ds0, p0, q0, hargs, rfl, rfl, h0, r0⟩ := trodAll_cons hA
  obtain ⟨v1, vs1, d1, ds1, p1, q1, rfl, rfl, rfl, h1, r1⟩ := trodAll_cons r0
  obtain ⟨rfl, rfl, rfl⟩ := trodAll_nil r1
  obtain rfl : args = #[v0, v1] := by cases args; simp_all
  obtain ⟨rfl, rfl⟩ := trodVars_none hV
  obtain ⟨A0, n0, c0, rfl⟩ := okWide_slice Try.underlying31 (hval 0 31 v0 rfl rfl)
  have k0 := h0
  have lt0 : ∀ x ∈ p0, x.block < W.heap.size := by obtain ⟨m, hm⟩ := k0; exact DataW.trod_lt m _ _ _ hm
  have hr0 := bools_arg Try.underlying31 h0
  obtain ⟨a1, rfl, rfl, rfl, w1⟩ := open_int Try.underlying5 (hval 1 5 v1 rfl rfl) h1
  clear hA0 hval0 hsz0
  refine (walk_any W hr0 _ w1).mono fun e W' ⟨he, bel⟩ => ?_
  subst he
  exact ⟨_, rfl, _, _, _, [], _, [], hW', trodAll_mk1 (shut_bool Try.underlying4 _), (trodAll_cons_mk (Below.trod laidOut (by kernel_rfl) (of_decide_eq_true (by kernel_rfl)) k0 bel lt0) (trodAll_cons_mk (shut_int Try.underlying5 w1) trodAll_mk0)), rfl, bel.frame _, fun h => by cases h⟩
theorem over : Rows.regsYankRow.holds Try.pinned (OpenSpec.ofChange Rows.regsYankSpec) :=
  OpenClaim.holds_of_wide 9 Try.f9 rfl rfl rfl rfl rfl rfl rfl ⟨rfl, rfl, rfl, rfl, rfl⟩ rfl rfl rfl rfl rfl (by kernel_rfl) Try.func9 (by kernel_rfl)
    (of_decide_eq_true (by kernel_rfl)) (by unfold Func.isWrapper; first | (rw [if_pos (by decide +kernel)]; kernel_rfl) | (rw [if_neg (by decide +kernel)]; exact ⟨rfl, rfl⟩))
    (fun os started H enc _ => lifted os started H enc)
end Go.Proofs.Ytgdlplkeafeblaa.regsYank
namespace Go.Proofs.Ytgdlplkeafeblaa
theorem regsYank_holds : Rows.RegsYankSaid := regsYank.over
#print axioms regsYank_holds
end Go.Proofs.Ytgdlplkeafeblaa
