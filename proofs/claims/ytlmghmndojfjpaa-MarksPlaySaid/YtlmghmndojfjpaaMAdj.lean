/- The document's marks: Adjust, walked; lines between -2^40 and 2^40. -/
import Derived.Test.YtlmghmndojfjpaaM2
import Derived.Test.YtlmghmndojfjpaaRefShift
import Derived.Deep.AppendLies
import Derived.Deep.DeepCutAuto
namespace Go.Proofs.Ytlmghmndojfjpaa.Mf
open Go.RowKit Go.Shelf Go.Proofs.Ytlmghmndojfjpaa.MapRaw Go.Proofs.Ytlmghmndojfjpaa.Frm Go.Proofs.Ytlmghmndojfjpaa.Mk Go.Proofs.Ytlmghmndojfjpaa.Keys Go.Proofs.Ytlmghmndojfjpaa.Shf
set_option linter.unusedVariables false
set_option linter.unusedSimpArgs false
attribute [local go_sem ↓] Go.wp_at_zero Go.wp_at_succ

/-- The first j names that stay. -/
def stay (f : Nat → Option (Int × Int)) (a o m : Int) (j : Nat) : List Nat := ((Mk.names f).take j).filter fun k => (adj f a o m k).isSome
theorem stay_zero (f : Nat → Option (Int × Int)) (a o m : Int) : stay f a o m 0 = [] := rfl
theorem stay_succ {f : Nat → Option (Int × Int)} {a o m : Int} {j k : Nat} (h : (Mk.names f)[j]? = some k) : stay f a o m (j + 1) = stay f a o m j ++ (if (adj f a o m k).isSome then [k] else []) := by
  unfold stay
  obtain ⟨hl, e⟩ := List.getElem?_eq_some_iff.1 h
  rw [List.take_succ_eq_append_getElem hl, List.filter_append, e]
  congr 1
  simp [List.filter_cons]
theorem stay_all (f : Nat → Option (Int × Int)) (a o m : Int) : stay f a o m (Mk.names f).length = Mk.names (adj f a o m) := by
  unfold stay
  rw [List.take_length]
  unfold Mk.names
  rw [List.filter_filter]
  congr 1
  funext k
  cases hf : f k with
  | none => simp [adj, hf]
  | some p => simp [hf]
theorem stay_len (f : Nat → Option (Int × Int)) (a o m : Int) (j : Nat) : (stay f a o m j).length ≤ 256 := by
  unfold stay
  refine Nat.le_trans (List.length_filter_le _ _) (Nat.le_trans (List.length_take_le' _ _) (Ins.nms_length _))

/-- Half way: what has been kept lies in rows of the call's own. -/
structure Half (w0 wr : World) (f : Nat → Option (Int × Int)) (a o m : Int) (j : Nat) (n ps : Value) : Prop where
  n : wr.ownsRow w0.heap.size 5 1 n (stay f a o m j).length ((stay f a o m j).map enc8)
  p : wr.ownsRow w0.heap.size 37 2 ps (stay f a o m j).length ((stay f a o m j).flatMap fun k => rcell (posOr (adj f a o m k)))
  only : Only No w0 wr

theorem Half.no {w0 w w' : World} {f : Nat → Option (Int × Int)} {a o m : Int} {j : Nat} {n ps : Value} (h : Half w0 w f a o m j n ps) (ho : Only No w w') : Half w0 w' f a o m j n ps :=
  ⟨row_only h.n ho (fun _ _ h => h), row_only h.p ho (fun _ _ h => h), h.only.trans' ho⟩
theorem Half.skip {w0 w : World} {f : Nat → Option (Int × Int)} {a o m : Int} {j k : Nat} {n ps : Value} (h : Half w0 w f a o m j n ps) (hk : (Mk.names f)[j]? = some k) (hn : adj f a o m k = none) : Half w0 w f a o m (j + 1) n ps := by
  have e : stay f a o m (j + 1) = stay f a o m j := by rw [stay_succ hk, hn]; simp
  exact ⟨by rw [e]; exact h.n, by rw [e]; exact h.p, h.only⟩
theorem Half.ne {w0 w : World} {f : Nat → Option (Int × Int)} {a o m : Int} {j : Nat} {n ps : Value} (h : Half w0 w f a o m j n ps) {b : Nat} (h1 : n.ownBlock = some b) : ps.ownBlock ≠ some b := by
  intro h2
  obtain ⟨c1, e1⟩ := row_block h.n h1
  obtain ⟨c2, e2⟩ := row_block h.p h2
  rw [e1] at e2; cases e2
/-- Both rows are longer by one. -/
theorem Half.more {w0 W w1 w2 W2 : World} {f : Nat → Option (Int × Int)} {a o m : Int} {j k g1 g2 c1 c2 S : Nat} (hS : (stay f a o m j).length = S) {n ps : Value} {p : Int × Int} (h : Half w0 W f a o m j n ps) (hk : (Mk.names f)[j]? = some k) (ha : adj f a o m k = some p)
    (hn1 : w1.ownsRow w0.heap.size 5 1 (.slice (some ⟨g1, 0, none⟩) (S + 1) c1) (S + 1) (((stay f a o m j).map enc8) ++ [enc8 k]))
    (hp2 : w2.ownsRow w0.heap.size 37 2 (.slice (some ⟨g2, 0, none⟩) (S + 1) c2) (S + 1) (((stay f a o m j).flatMap fun k => rcell (posOr (adj f a o m k))) ++ [.int .i64 p.1, .int .i64 p.2]))
    (ho1 : Only No w0 w1) (ho2 : Only No w1 W2) (hg : W2.grownBy w2 ps.ownBlock) (hne : ps.ownBlock ≠ some g1) (hge : ∀ b, ps.ownBlock = some b → w0.heap.size ≤ b) : Half w0 w2 f a o m (j + 1) (.slice (some ⟨g1, 0, none⟩) (S + 1) c1) (.slice (some ⟨g2, 0, none⟩) (S + 1) c2) := by
  subst hS
  have e : stay f a o m (j + 1) = stay f a o m j ++ [k] := by rw [stay_succ hk, ha]; simp
  have hO : Only (fun b => ps.ownBlock = some b) W2 w2 := Only.of_grownBy hg
  refine ⟨?_, ?_, ?_⟩
  · rw [e, List.map_append, List.length_append]
    exact row_only (row_only hn1 ho2 (fun _ _ h => h)) hO (fun b hb e => by cases hb; exact hne e)
  · rw [e, List.flatMap_append, List.length_append]
    simp only [List.flatMap_cons, List.flatMap_nil, List.append_nil, ha, posOr, Option.getD_some, rcell]
    exact hp2
  · exact (ho1.trans' ho2).trans hO (fun b hb e => absurd hb (by have := hge b e; omega))

/-- Behind it all: the rows are the marks' own. -/
theorem fin_adj {base P N : Nat} {f : Nat → Option (Int × Int)} {a o m : Int} {w wr : World} {v1 v2 n ps : Value} (hge : base ≤ P) (hbase : base ≤ w.heap.size) (hbox : w.heap[P]? = some (.cells #[v1, v2] 35 (0, 0))) (hN : (Mk.names f).length = N) (hH : Half w wr f a o m N n ps) :
    RAt ((wr.setCell ⟨P, 0, none⟩ n).setCell ⟨P, 1, none⟩ ps) base P (adj f a o m) ∧ Only (Foot w P) w ((wr.setCell ⟨P, 0, none⟩ n).setCell ⟨P, 1, none⟩ ps) ∧ (∀ b, Foot ((wr.setCell ⟨P, 0, none⟩ n).setCell ⟨P, 1, none⟩ ps) P b → Foot w P b ∨ w.heap.size ≤ b) := by
  have hPl := heap_lt hbox
  have hP : wr.heap[P]? = some (.cells #[v1, v2] 35 (0, 0)) := (hH.only.block P hPl (fun h => h)).trans hbox
  have h2 := store_cell1 (x := ps) (store_cell0 (x := n) hP)
  have hO : Only (fun b => b = P) wr ((wr.setCell ⟨P, 0, none⟩ n).setCell ⟨P, 1, none⟩ ps) := ((Only.refl (fun b => b = P) wr).setCell (p := ⟨P, 0, none⟩) (.inr rfl) _).setCell (p := ⟨P, 1, none⟩) (.inr rfl) _
  have e : stay f a o m N = Mk.names (adj f a o m) := by rw [← hN]; exact stay_all _ _ _ _
  have h1 := hH.n
  have h3 := hH.p
  rw [e] at h1 h3
  refine ⟨⟨⟨n, ps, fun k => posOr (adj f a o m k), h2, ?_, ?_, fun k r hk => by show (posOr (adj f a o m k)).1 = _ ∧ (posOr (adj f a o m k)).2 = _; rw [hk]; exact ⟨rfl, rfl⟩, fun b hb => trivial⟩, hge⟩, (hH.only.mono (fun _ _ h => h.elim)).trans' (hO.mono (fun b _ e => .inl e)), fun b hb => ?_⟩
  · exact row_lower (row_only h1 hO (fun b hb e => by have := (h1.lt b hb).1; omega)) hbase
  · exact row_lower (row_only h3 hO (fun b hb e => by have := (h3.lt b hb).1; omega)) hbase
  · rcases hb with rfl | ⟨u1, u2, hu, hb⟩
    · exact .inl (.inl rfl)
    · rw [h2] at hu
      cases hu
      exact .inr (h3.lt b hb).1

theorem blk0 (w : World) (a b : Obj) : ((w.alloc a).alloc b).heap[w.heap.size]? = some a := (Below.heap_alloc (w.alloc a) b w.heap.size (by simp)).trans (alloc_new w a)
theorem blk1 (w : World) (a b : Obj) : ((w.alloc a).alloc b).heap[w.heap.size + 1]? = some b := by have := alloc_new (w.alloc a) b; simpa using this
set_option maxHeartbeats 4000000 in
set_option maxRecDepth 100000 in
theorem madj_calls (base P : Nat) (f : Nat → Option (Int × Int)) (a o m : Int) (w : World) (h : RAt w base P f) (hbase : base ≤ w.heap.size) (hbd : ∀ k p, f k = some p → -1099511627776 ≤ p.1 ∧ p.1 ≤ 1099511627776) :
    Calls Try.prog 15 #[.pointer (some ⟨P, 0, none⟩), .int .i64 a, .int .i64 o, .int .i64 m] w fun e w' => e = .returned (.tuple #[]) ∧ RAt w' base P (adj f a o m) ∧ Only (Foot w P) w w' ∧ (∀ b, Foot w' P b → Foot w P b ∨ w.heap.size ≤ b) := by
  obtain ⟨v1, v2, q, hbox, hn, hr, hq, hbr⟩ := h.ex
  obtain ⟨A1, c1, rfl, _, hc1, hm1, _, _, hs1⟩ := row_shape hn
  obtain ⟨A2, c2, rfl, _, hc2, hm2, _, _, hs2⟩ := row_shape hr
  unfold maxLen at hm1 hm2
  have hN256 : (Mk.names f).length ≤ 256 := Ins.nms_length _
  have hPlt := heap_lt hbox
  obtain ⟨N, hN⟩ : ∃ N, (Mk.names f).length = N := ⟨_, rfl⟩
  have HX := Lib.hid (And.intro hbox (And.intro hn (And.intro hr (And.intro hq (And.intro hs1 (And.intro hs2 h.ge))))))
  have HBD := Lib.hid hbd
  obtain ⟨p0, p1, z0, z1⟩ := two_cells hbox
  rw [hN] at hc1 hc2 hN256 p0 p1
  have HN := Lib.hid hN
  obtain ⟨i1, hi1i, hz1a, hz1b, hz1c⟩ := info_parts infoByte
  obtain ⟨i2, hi2i, hz2a, hz2b, hz2c⟩ := info_parts infoPos
  have HI1 := Lib.hid (And.intro hi1i (And.intro hz1a (And.intro hz1b hz1c)))
  have HI2 := Lib.hid (And.intro hi2i (And.intro hz2a (And.intro hz2b hz2c)))
  have HBASE := Lib.hid hbase
  clear hi1i hz1a hz1b hz1c hi2i hz2a hz2b hz2c hbox hn hr hq hbr hs1 hs2 hN h hbd hbase
  go_enter Try.func15, Try.ntmps15
  go_wp2_with fail
  go_loopw [8, 9, 10, 11, 12, 13] (fun n ps i _ _ _ wr => ∃ j : Nat, i = .int .i64 (j : Int) ∧ j ≤ N ∧ Half w wr f a o m j n ps) (fun _ _ i _ _ _ _ => N - (intOf i).toNat)
  case atStart => exact ⟨0, rfl, by omega, World.ownsRow_nil _ _ _ _, World.ownsRow_nil _ _ _ _, Only.refl _ _⟩
  case round =>
    obtain ⟨j, rfl, hj, hH⟩ := hrel
    have hO := hH.only
    have p0r : wr.cell? ⟨P, 0, none⟩ = some (.slice A1 N c1) := (cell_block (hO.block P hPlt (fun h => h)) 0).trans p0
    have p1r : wr.cell? ⟨P, 1, none⟩ = some (.slice A2 N c2) := (cell_block (hO.block P hPlt (fun h => h)) 1).trans p1
    have z0r : wr.frozen? ⟨P, 0, none⟩ = false := (frozen_block (hO.block P hPlt (fun h => h)) 0).trans z0
    have z1r : wr.frozen? ⟨P, 1, none⟩ = false := (frozen_block (hO.block P hPlt (fun h => h)) 1).trans z1
    by_cases hjN : j < N
    · obtain ⟨hbox, hn, hr, hq, hs1, hs2, hge⟩ := HX.out
      have hl : j < (Mk.names f).length := by have := HN.out; omega
      obtain ⟨g1, rfl⟩ := hs1 (by omega)
      obtain ⟨g2, rfl⟩ := hs2 (by omega)
      have hx : (Mk.names f)[j]? = some ((Mk.names f)[j]'hl) := List.getElem?_eq_getElem hl
      generalize ((Mk.names f)[j]'hl) = x at *
      have hnW := row_only hn hO (fun _ _ h => h)
      have hrW := row_only hr hO (fun _ _ h => h)
      have k1 := hnW.cellAt j (by omega)
      rw [List.getElem?_map, hx] at k1
      change wr.cell? ⟨g1, j, none⟩ = some (.int .u8 (x : Int)) at k1
      obtain ⟨h3, h4⟩ := flat_at (Mk.names f) q hx
      have k2 := hrW.cellAt (j * 2) (by omega)
      have k3 := hrW.cellAt (j * 2 + 1) (by omega)
      rw [h3] at k2
      rw [h4] at k3
      have hxm : x ∈ Mk.names f := List.mem_of_getElem? hx
      have hsome : (f x).isSome = true := (List.mem_filter.1 hxm).2
      obtain ⟨⟨r1, r2⟩, hfx⟩ := Option.isSome_iff_exists.1 hsome
      obtain ⟨e1, e2⟩ := hq x _ hfx
      rw [e1] at k2
      rw [e2] at k3
      obtain ⟨hb0, hb1⟩ := HBD.out x _ hfx
      have hg1l : g1 < w.heap.size := (hn.lt g1 rfl).2
      have HH := Lib.hid hH
      have HF := Lib.hid (And.intro hx hfx)
      have hPr : P < wr.heap.size := Nat.lt_of_lt_of_le hPlt hO.size
      have hg1r : g1 < wr.heap.size := Nat.lt_of_lt_of_le hg1l hO.size
      have hszr := hO.size
      clear hbox hn hr hq hs1 hs2 hge hnW hrW h3 h4 hxm hsome e1 e2 hx hfx hH hO hl
      go_wp2_with fail
      refine (ref_shift_calls r1 a o m _ hb0 hb1).mono ?_
      rintro e w5 ⟨rfl, rfl⟩
      cases hs : shift r1 a o m with
      | mk l ok =>
      cases ok with
      | false =>
        have ha : adj f a o m x = none := by unfold adj; rw [HF.out.2]; simp [adj1, hs]
        have HH2 := Lib.hid (HH.out.skip HF.out.1 ha |>.no ((Only.refl No wr).alloc (.cells #[.int .i64 r1, .int .i64 r2] 37)))
        clear ha hs
        go_wp2_with fail
        go_roundw
        case rel => exact ⟨j + 1, by first | rfl | (simp; done) | (simp; omega), by omega, HH2.out⟩
        case measure => first | (simp [intOf]; done) | (simp [intOf]; omega)
      | true =>
        have ha : adj f a o m x = some (l, r2) := by unfold adj; rw [HF.out.2]; simp [adj1, hs]
        have HA := Lib.hid ha
        clear ha hs
        go_upto_region 8 with (fail)
        go_cut [] (fun wx => wx.heap[wr.heap.size]? = some (.cells #[.int .i64 l, .int .i64 r2] 37 (0, 0)) ∧ Only No wr wx)
        case first =>
          go_wp2_with fail
          go_meet
          refine ⟨?_, ?_⟩
          · first | exact alloc_new wr _ | (have := alloc_new wr (.cells #[.int .i64 r1, .int .i64 r2] 37); simp [World.setCell, Array.getElem?_modify, this])
          · first | exact (Only.refl No wr).alloc _ | exact ((Only.refl No wr).alloc _).setCell (.inl (Nat.le_refl _)) _
        case rest =>
          obtain ⟨hbx, hOw⟩ := hcut
          have q0 := (two_cells hbx).1
          have q1 := (two_cells hbx).2.1
          have d0 : wc.cell? ⟨P, 0, none⟩ = some (.slice (some ⟨g1, 0, none⟩) N c1) := (cell_block (hOw.block P hPr (fun h => h)) 0).trans p0r
          have d1 : wc.cell? ⟨g1, j, none⟩ = some (.int .u8 (x : Int)) := (cell_block (hOw.block g1 hg1r (fun h => h)) j).trans k1
          have hbl : wr.heap.size < wc.heap.size := heap_lt hbx
          have HHc := Lib.hid (HH.out.no hOw)
          obtain ⟨S, hS⟩ : ∃ S, (stay f a o m j).length = S := ⟨_, rfl⟩
          have hS256 : S ≤ 256 := by rw [← hS]; exact stay_len _ _ _ _ _
          have HSl := Lib.hid hS
          have hr1 : wc.ownsRow w.heap.size 5 1 u8 S ((stay f a o m j).map enc8) := by rw [← hS]; exact HHc.out.n
          have hr2 : wc.ownsRow w.heap.size 37 2 u9 S ((stay f a o m j).flatMap fun k => rcell (posOr (adj f a o m k))) := by rw [← hS]; exact HHc.out.p
          have hK1 : ∀ W w1 : World, Only No wc W → W.grownBy w1 u8.ownBlock → (w1.cell? ⟨P, 0, none⟩ = some (.slice (some ⟨g1, 0, none⟩) N c1) ∧ w1.cell? ⟨g1, j, none⟩ = some (.int .u8 (x : Int)) ∧ w1.cell? ⟨wr.heap.size, 0, none⟩ = some (.int .i64 l) ∧ w1.cell? ⟨wr.heap.size, 1, none⟩ = some (.int .i64 r2)) ∧ (∀ b, wc.heap.size ≤ b → b < W.heap.size → w1.heap[b]? = W.heap[b]?) ∧ w1.ownsRow w.heap.size 37 2 u9 S ((stay f a o m j).flatMap fun k => rcell (posOr (adj f a o m k))) ∧ Only No w w1 ∧ wc.heap.size ≤ w1.heap.size := by
            intro W w1 hW hg
            have hO := Only.of_grownBy hg
            have hsW := hW.size
            have hown : ∀ b, u8.ownBlock = some b → w.heap.size ≤ b ∧ b < wc.heap.size := fun b hb => hr1.lt b hb
            have hfar : ∀ b, b < wc.heap.size → u8.ownBlock ≠ some b → w1.heap[b]? = wc.heap[b]? := fun b hb hn => (hO.block b (by omega) hn).trans (hW.block b hb (fun h => h))
            have hPf := hfar P (by omega) (fun e => by have := hown P e; omega)
            have hgf := hfar g1 (by omega) (fun e => by have := hown g1 e; omega)
            have hbf := hfar wr.heap.size hbl (fun e => by
              obtain ⟨cur, hc⟩ := row_block hr1 e
              rw [hbx] at hc; cases hc)
            refine ⟨⟨(cell_block hPf 0).trans d0, (cell_block hgf j).trans d1, (cell_block hbf 0).trans q0, (cell_block hbf 1).trans q1⟩, fun b hb1 hb2 => hO.block b hb2 (fun e => by have := hown b e; omega), ?_, ?_, by have := hO.size; omega⟩
            · refine row_only (row_only hr2 hW (fun _ _ h => h)) hO (fun b hb e => ?_)
              exact HHc.out.ne e hb
            · exact ((HHc.out.only.trans' hW).trans hO (fun b hb e => by have := hown b e; omega))
          have hK2 : ∀ w1 W w2 : World, Only No w w1 → wc.heap.size ≤ w1.heap.size → (w1.cell? ⟨P, 0, none⟩ = some (.slice (some ⟨g1, 0, none⟩) N c1) ∧ w1.cell? ⟨g1, j, none⟩ = some (.int .u8 (x : Int)) ∧ w1.cell? ⟨wr.heap.size, 0, none⟩ = some (.int .i64 l) ∧ w1.cell? ⟨wr.heap.size, 1, none⟩ = some (.int .i64 r2)) → Only No w1 W → W.grownBy w2 u9.ownBlock → (w2.cell? ⟨P, 0, none⟩ = some (.slice (some ⟨g1, 0, none⟩) N c1) ∧ w2.cell? ⟨g1, j, none⟩ = some (.int .u8 (x : Int)) ∧ w2.cell? ⟨wr.heap.size, 0, none⟩ = some (.int .i64 l) ∧ w2.cell? ⟨wr.heap.size, 1, none⟩ = some (.int .i64 r2)) := by
            intro w1 W w2 h1 hs h hW hg
            have hO := Only.of_grownBy hg
            have hsW := hW.size
            have hown : ∀ b, u9.ownBlock = some b → w.heap.size ≤ b ∧ b < wr.heap.size := fun b hb => HH.out.p.lt b hb
            have hfar : ∀ b, b < w1.heap.size → u9.ownBlock ≠ some b → w2.heap[b]? = w1.heap[b]? := fun b hb hn => (hO.block b (by omega) hn).trans (hW.block b hb (fun h => h))
            have hPf := hfar P (by omega) (fun e => by have := hown P e; omega)
            have hgf := hfar g1 (by omega) (fun e => by have := hown g1 e; omega)
            have hbf := hfar wr.heap.size (by omega) (fun e => by have := hown _ e; omega)
            exact ⟨(cell_block hPf 0).trans h.1, (cell_block hgf j).trans h.2.1, (cell_block hbf 0).trans h.2.2.1, (cell_block hbf 1).trans h.2.2.2⟩
          have hne9 : ∀ b, u9.ownBlock = some b → w.heap.size ≤ b ∧ b < wr.heap.size := fun b hb => HH.out.p.lt b hb
          have hne8 : ∀ b, u8.ownBlock = some b → u9.ownBlock ≠ some b := fun b hb => HH.out.ne hb
          have HNE := Lib.hid (And.intro hne8 hne9)
          have HR1 := Lib.hid hr1
          have HK1 := Lib.hid hK1
          have HK2 := Lib.hid hK2
          have ij0 : (0 : Int) ≤ (j : Int) := by omega
          have ij1 : (j : Int) < (N : Int) := by omega
          have hwc : w.heap.size ≤ wc.heap.size := HHc.out.only.size
          clear hr1 hr2 hK1 hK2 hne8 hne9 hbx hOw
          go_upto_region 9 with (fail)
          go_region_held3 (fun w' => w'.cell? ⟨P, 0, none⟩ = some (.slice (some ⟨g1, 0, none⟩) N c1) ∧ w'.cell? ⟨g1, j, none⟩ = some (.int .u8 (x : Int)) ∧ w'.cell? ⟨wr.heap.size, 0, none⟩ = some (.int .i64 l) ∧ w'.cell? ⟨wr.heap.size, 1, none⟩ = some (.int .i64 r2))
            (first | exact ⟨by assumption, by assumption, by assumption, by assumption⟩ | go_keep)
            (first
              | (refine step_append_lies (w := w1.alloc (.cells #[.int .i64 l, .int .i64 r2] 37)) rfl _ _ 33 (by rfl) w.heap.size 37 i2 _ 2 16 Try.underlying33 HI2.out.1 HI2.out.2.1 HI2.out.2.2.1 HI2.out.2.2.2 rfl (by decide) u9 S _ (by rfl) (row_only HR2.out ((Only.refl No w1).alloc _) (fun _ _ h => h)) ⟨w1.heap.size, 0, none⟩ 1 1 [.int .i64 l, .int .i64 r2] (by rfl) rfl (World.news_of_block (alloc_new w1 (.cells #[.int .i64 l, .int .i64 r2] 37))) (by intro u hu; simp at hu; rcases hu with rfl | rfl <;> rfl) (by decide) (by unfold maxLen; omega) (by omega) (by simp; omega) _ rfl ?_; intro g4 cap4 w2 hp2 hg2 hat2 hlt2; obtain ⟨f0, f1, f2, f3⟩ := HK2.out w1 _ w2 HO1.out hs1 ⟨e0, e1, e2, e3⟩ ((Only.refl No w1).alloc _) hg2; have HF2 := Lib.hid (Half.more (W := wc) HSl.out HHc.out HF.out.1 HA.out HN1.out hp2 HO1.out ((Only.refl No w1).alloc _) hg2 HNG.out (fun b hb => (HNE.out.2 b hb).1)); clear hp2 hg2 hat2)
              | (refine step_append_lies (w := w1) rfl _ _ 33 (by rfl) w.heap.size 37 i2 _ 2 16 Try.underlying33 HI2.out.1 HI2.out.2.1 HI2.out.2.2.1 HI2.out.2.2.2 rfl (by decide) u9 S _ (by rfl) HR2.out ⟨wc.heap.size + 1, 0, none⟩ 1 1 [.int .i64 l, .int .i64 r2] (by rfl) rfl (World.news_of_block HQB.out) (by intro u hu; simp at hu; rcases hu with rfl | rfl <;> rfl) (by decide) (by unfold maxLen; omega) (by omega) (by omega) _ rfl ?_; intro g4 cap4 w2 hp2 hg2 hat2 hlt2; obtain ⟨f0, f1, f2, f3⟩ := HK2.out w1 _ w2 HO1.out hs1 ⟨e0, e1, e2, e3⟩ (Only.refl No w1) hg2; have HF2 := Lib.hid (Half.more (W := wc) HSl.out HHc.out HF.out.1 HA.out HN1.out hp2 HO1.out (Only.refl No w1) hg2 HNG.out (fun b hb => (HNE.out.2 b hb).1)); clear hp2 hg2 hat2)
              | (refine step_append_lies (w := w1) rfl _ _ 33 (by rfl) w.heap.size 37 i2 _ 2 16 Try.underlying33 HI2.out.1 HI2.out.2.1 HI2.out.2.2.1 HI2.out.2.2.2 rfl (by decide) u9 S _ (by rfl) HR2.out ⟨wc.heap.size, 0, none⟩ 1 1 [.int .i64 l, .int .i64 r2] (by rfl) rfl (World.news_of_block HQB.out) (by intro u hu; simp at hu; rcases hu with rfl | rfl <;> rfl) (by decide) (by unfold maxLen; omega) (by omega) (by omega) _ rfl ?_; intro g4 cap4 w2 hp2 hg2 hat2 hlt2; obtain ⟨f0, f1, f2, f3⟩ := HK2.out w1 _ w2 HO1.out hs1 ⟨e0, e1, e2, e3⟩ (Only.refl No w1) hg2; have HF2 := Lib.hid (Half.more (W := wc) HSl.out HHc.out HF.out.1 HA.out HN1.out hp2 HO1.out (Only.refl No w1) hg2 HNG.out (fun b hb => (HNE.out.2 b hb).1)); clear hp2 hg2 hat2)
              | (refine step_append_lies (w := ((wc.alloc (.cells #[.int .u8 (x : Int)] 5)).alloc (.cells #[.int .i64 l, .int .i64 r2] 37)).drew) rfl _ _ 32 (by rfl) w.heap.size 5 i1 _ 1 1 Try.underlying32 HI1.out.1 HI1.out.2.1 HI1.out.2.2.1 HI1.out.2.2.2 rfl (by decide) u8 S _ (by rfl) (row_only HR1.out (((Only.refl No wc).alloc _).alloc _).drew (fun _ _ h => h)) ⟨wc.heap.size, 0, none⟩ 1 1 [enc8 x] (by rfl) rfl (World.news_of_block (B := wc.heap.size) (cs := #[.int .u8 (x : Int)]) (t := 5) (fr := (0, 0)) (blk0 wc _ _)) (by intro u hu; simp at hu; subst hu; rfl) (by decide) (by unfold maxLen; omega) (by omega) (by simp; omega) _ rfl ?_; intro g3 cap3 w1 hn1 hg3 hat1 hlt1; obtain ⟨⟨e0, e1, e2, e3⟩, hkb, hps, hO1, hs1⟩ := HK1.out _ w1 (((Only.refl No wc).alloc _).alloc _).drew hg3; have HR2 := Lib.hid hps; have HO1 := Lib.hid hO1; have HN1 := Lib.hid hn1; have HNG := Lib.hid (show u9.ownBlock ≠ some g3 from fun e => by rcases hat1 with h | h; exact HNE.out.1 _ h e; (have h5 := (HNE.out.2 _ e).2; simp at h; omega)); have HQB := Lib.hid (show w1.heap[wc.heap.size + 1]? = some (.cells #[.int .i64 l, .int .i64 r2] 37 (0, 0)) from (hkb (wc.heap.size + 1) (by omega) (by simp)).trans (blk1 wc _ _)); clear hps hO1 hn1 hg3 hat1 hkb)
              | (refine step_append_lies (w := ((wc.alloc (.cells #[.int .i64 l, .int .i64 r2] 37)).alloc (.cells #[.int .u8 (x : Int)] 5)).drew) rfl _ _ 32 (by rfl) w.heap.size 5 i1 _ 1 1 Try.underlying32 HI1.out.1 HI1.out.2.1 HI1.out.2.2.1 HI1.out.2.2.2 rfl (by decide) u8 S _ (by rfl) (row_only HR1.out (((Only.refl No wc).alloc _).alloc _).drew (fun _ _ h => h)) ⟨wc.heap.size + 1, 0, none⟩ 1 1 [enc8 x] (by rfl) rfl (World.news_of_block (B := wc.heap.size + 1) (cs := #[.int .u8 (x : Int)]) (t := 5) (fr := (0, 0)) (blk1 wc _ _)) (by intro u hu; simp at hu; subst hu; rfl) (by decide) (by unfold maxLen; omega) (by omega) (by simp; omega) _ rfl ?_; intro g3 cap3 w1 hn1 hg3 hat1 hlt1; obtain ⟨⟨e0, e1, e2, e3⟩, hkb, hps, hO1, hs1⟩ := HK1.out _ w1 (((Only.refl No wc).alloc _).alloc _).drew hg3; have HR2 := Lib.hid hps; have HO1 := Lib.hid hO1; have HN1 := Lib.hid hn1; have HNG := Lib.hid (show u9.ownBlock ≠ some g3 from fun e => by rcases hat1 with h | h; exact HNE.out.1 _ h e; (have h5 := (HNE.out.2 _ e).2; simp at h; omega)); have HQB := Lib.hid (show w1.heap[wc.heap.size]? = some (.cells #[.int .i64 l, .int .i64 r2] 37 (0, 0)) from (hkb wc.heap.size (by omega) (by simp; omega)).trans (blk0 wc _ _)); clear hps hO1 hn1 hg3 hat1 hkb)
              | (refine step_append_lies (w := (wc.alloc (.cells #[.int .u8 (x : Int)] 5)).drew) rfl _ _ 32 (by rfl) w.heap.size 5 i1 _ 1 1 Try.underlying32 HI1.out.1 HI1.out.2.1 HI1.out.2.2.1 HI1.out.2.2.2 rfl (by decide) u8 S _ (by rfl) (row_only HR1.out ((Only.refl No wc).alloc _).drew (fun _ _ h => h)) ⟨wc.heap.size, 0, none⟩ 1 1 [enc8 x] (by rfl) rfl (World.news_of_block (B := wc.heap.size) (cs := #[.int .u8 (x : Int)]) (t := 5) (fr := (0, 0)) (alloc_new wc _)) (by intro u hu; simp at hu; subst hu; rfl) (by decide) (by unfold maxLen; omega) (by omega) (by simp; omega) _ rfl ?_; intro g3 cap3 w1 hn1 hg3 hat1 hlt1; obtain ⟨⟨e0, e1, e2, e3⟩, hkb, hps, hO1, hs1⟩ := HK1.out _ w1 ((Only.refl No wc).alloc _).drew hg3; have HR2 := Lib.hid hps; have HO1 := Lib.hid hO1; have HN1 := Lib.hid hn1; have HNG := Lib.hid (show u9.ownBlock ≠ some g3 from fun e => by rcases hat1 with h | h; exact HNE.out.1 _ h e; (have h5 := (HNE.out.2 _ e).2; simp at h; omega)); clear hps hO1 hn1 hg3 hat1 hkb))
          all_goals (go_wp2_with fail)
          all_goals (
            go_roundw
            case rel => exact ⟨j + 1, by first | rfl | (simp; done) | (simp; omega), by omega, HF2.out⟩
            case measure => first | (simp [intOf]; done) | (simp [intOf]; omega))
    · have g4 : ¬ (j : Int) < (N : Int) := by omega
      obtain rfl : j = N := by omega
      obtain ⟨A5, c5, rfl, _, _, _, _, _, _⟩ := row_shape hH.n
      obtain ⟨A6, c6, rfl, _, _, _, _, _, _⟩ := row_shape hH.p
      have HH := Lib.hid hH
      clear hH hO
      go_wp2_with fail
      go_end0
      obtain ⟨hbox, hn, hr, hq, hs1, hs2, hge⟩ := HX.out
      exact ⟨rfl, fin_adj hge HBASE.out hbox HN.out HH.out⟩

section
variable {w0 : World} {B M P : Nat} {f g : Nat → Option (Int × Int)} {fs : List Blk}
theorem padj_m2 (a o m : Int) (w : World) (h : M2 w0 w B M f P g fs) (hd : ∀ k, 256 ≤ k → f k = none) (hbd : ∀ k p, f k = some p → -1099511627776 ≤ p.1 ∧ p.1 ≤ 1099511627776) :
    Calls Try.prog 14 #[.pointer (some ⟨B, 0, none⟩), .int .i64 a, .int .i64 o, .int .i64 m] w fun e w' => e = .returned (.tuple #[]) ∧ M2 w0 w' B M (adj f a o m) P g fs := by
  refine (adjust_calls B M f a o m w h.reg hd hbd).mono ?_
  rintro e w' ⟨rfl, hA, hO⟩
  exact ⟨rfl, h.prog hA hO⟩
theorem dadj_m2 (a o m : Int) (w : World) (h : M2 w0 w B M f P g fs) (hbd : ∀ k p, g k = some p → -1099511627776 ≤ p.1 ∧ p.1 ≤ 1099511627776) :
    Calls Try.prog 15 #[.pointer (some ⟨P, 0, none⟩), .int .i64 a, .int .i64 o, .int .i64 m] w fun e w' => e = .returned (.tuple #[]) ∧ M2 w0 w' B M f P (adj g a o m) fs := by
  refine (madj_calls w0.heap.size P g a o m w h.r h.bel.size hbd).mono ?_
  rintro e w' ⟨rfl, hr, ho, hm⟩
  exact ⟨rfl, h.ref hr ho hm⟩
end
end Go.Proofs.Ytlmghmndojfjpaa.Mf
