/- The document's marks: Set, walked; no condition. -/
import Derived.Test.YtlmghmndojfjpaaMRef
import Derived.Deep.DeepCutAuto
namespace Go.Proofs.Ytlmghmndojfjpaa.Mf
open Go.RowKit Go.Proofs.Ytlmghmndojfjpaa.MapRaw Go.Proofs.Ytlmghmndojfjpaa.Frm Go.Proofs.Ytlmghmndojfjpaa.Mk Go.Proofs.Ytlmghmndojfjpaa.Keys
set_option linter.unusedVariables false
set_option linter.unusedSimpArgs false
attribute [local go_sem ↓] Go.wp_at_zero Go.wp_at_succ

def updQ (q : Nat → Q) (k : Nat) (y : Q) : Nat → Q := fun j => if j = k then y else q j
theorem flat_congr {N : List Nat} {q : Nat → Q} {k : Nat} {y : Q} (h : ∀ x ∈ N, x ≠ k) : (N.flatMap fun j => rcell (updQ q k y j)) = N.flatMap fun j => rcell (q j) := by
  induction N with
  | nil => rfl
  | cons a l ih =>
    rw [List.flatMap_cons, List.flatMap_cons, ih (fun x hx => h x (by simp [hx]))]
    unfold updQ
    rw [if_neg (h a (by simp))]
theorem names_upd {f : Nat → Option (Int × Int)} {k : Nat} {r : Int × Int} (hk : k < 256) : Mk.names (updM f k (some r)) = Ins.lo (has f) k ++ ([k] ++ Ins.hi (has f) k) := by
  have hne : ∀ j, j ≠ k → has (updM f k (some r)) j = has f j := fun j hj => by unfold has updM; rw [if_neg hj]
  have hk2 : has (updM f k (some r)) k = true := by unfold has updM; rw [if_pos rfl]; rfl
  rw [names_nms, Ins.nms_split _ hk, hk2, if_pos rfl, Ins.lo_congr hne, Ins.hi_congr hne]
theorem flat_upd {f : Nat → Option (Int × Int)} {q : Nat → Q} {k : Nat} {y : Q} {r : Int × Int} (hk : k < 256) :
    ((Mk.names (updM f k (some r))).flatMap fun j => rcell (updQ q k y j)) = ((Ins.lo (has f) k).flatMap fun j => rcell (q j)) ++ (rcell y ++ ((Ins.hi (has f) k).flatMap fun j => rcell (q j))) := by
  rw [names_upd hk, List.flatMap_append, List.flatMap_append, flat_congr (N := Ins.lo (has f) k) (fun x hx => by have := Ins.mem_lo hx; omega), flat_congr (N := Ins.hi (has f) k) (fun x hx => by have := Ins.mem_hi hx; omega)]
  simp [updQ]
theorem flat_split {f : Nat → Option (Int × Int)} {q : Nat → Q} {k : Nat} (hk : k < 256) :
    ((Mk.names f).flatMap fun j => rcell (q j)) = ((Ins.lo (has f) k).flatMap fun j => rcell (q j)) ++ (((if has f k then [k] else []).flatMap fun j => rcell (q j)) ++ ((Ins.hi (has f) k).flatMap fun j => rcell (q j))) := by
  rw [names_nms, Ins.nms_split _ hk, List.flatMap_append, List.flatMap_append]
theorem flat_len (N : List Nat) (q : Nat → Q) : (N.flatMap fun j => rcell (q j)).length = N.length * 2 := by
  induction N with
  | nil => rfl
  | cons a l ih => rw [List.flatMap_cons, List.length_append, ih]; simp [rcell]; omega
theorem flat_one (N : List Nat) (q : Nat → Q) : ∀ u ∈ (N.flatMap fun j => rcell (q j)), u.oneCell' = true ∧ ∀ s, u ≠ .string s := by
  intro u hu
  obtain ⟨j, _, h⟩ := List.mem_flatMap.1 hu
  simp [rcell] at h
  rcases h with rfl | rfl <;> exact ⟨rfl, fun s h => by cases h⟩

/-- Two cells of a row are stored. -/
theorem row_store {w : World} {base g n c T : Nat} {e : TypeId} {xs : List Value} {a b : Value} (h : w.ownsRow base e 2 (.slice (some ⟨g, 0, none⟩) n c) n xs) (hT : T < n) :
    ((w.setCell ⟨g, T * 2, none⟩ a).setCell ⟨g, T * 2 + 1, none⟩ b).ownsRow base e 2 (.slice (some ⟨g, 0, none⟩) n c) n ((xs.set (T * 2) a).set (T * 2 + 1) b) := by
  rcases h.2 with ⟨h0, _⟩ | ⟨g', cap, cur, e1, hb, hh, h1, h2, h3, h4⟩
  · cases h0
  · simp only [Value.slice.injEq, Option.some.injEq, Addr.mk.injEq, and_true, true_and] at e1
    obtain ⟨rfl, rfl⟩ := e1
    have hl := h.1
    refine ⟨by simpa using hl, .inr ⟨g, c, (cur.setIfInBounds (T * 2) a).setIfInBounds (T * 2 + 1) b, rfl, hb, ?_, h1, h2, by simpa using h3, ?_⟩⟩
    · have e2 : (w.setCell ⟨g, T * 2, none⟩ a).heap[g]? = some (.cells (cur.setIfInBounds (T * 2) a) e (0, 0)) := by simp [World.setCell, Array.getElem?_modify, hh]
      generalize w.setCell ⟨g, T * 2, none⟩ a = w1 at *
      simp [World.setCell, Array.getElem?_modify, e2]
    · rw [Array.toList_setIfInBounds, Array.toList_setIfInBounds, List.take_set, List.take_set, h4]
theorem row_store_bare {w : World} {g T : Nat} {k n : Int} (h : Bare w g) : Bare ((w.setCell ⟨g, T * 2, none⟩ (.int .i64 k)).setCell ⟨g, T * 2 + 1, none⟩ (.int .i64 n)) g := trivial
theorem sizeByte (w : World) : (sizeOf (Try.prog.elem 32)).run Try.prog w = .ok 1 w := by kernel_rfl
theorem sizePos (w : World) : (sizeOf (Try.prog.elem 33)).run Try.prog w = .ok 2 w := by kernel_rfl
theorem sliceByte : Try.prog.underlying 32 = some (.slice (Try.prog.elem 32)) := by kernel_rfl
theorem slicePos : Try.prog.underlying 33 = some (.slice (Try.prog.elem 33)) := by kernel_rfl

/-- Between the two rows: the names are new, the registers as they were. -/
structure Mid (W wx : World) (P S : Nat) (xs : List Value) (v2 : Value) : Prop where
  ex : ∃ g c, wx.heap[P]? = some (.cells #[.slice (some ⟨g, 0, none⟩) S c, v2] 35 (0, 0)) ∧ wx.ownsRow W.heap.size 5 1 (.slice (some ⟨g, 0, none⟩) S c) S xs
  only : Only (fun b => b = P) W wx
theorem at_prefix {w : World} {A : Option Addr} {xs ys : List Value} (h : Ins.At w A (xs ++ ys)) : Ins.At w A xs := by
  rcases h with h | ⟨b, o, rfl, hb, hc⟩
  · left; exact (List.append_eq_nil_iff.1 h).1
  · right
    refine ⟨b, o, rfl, hb, fun j u hj => hc j u ?_⟩
    rw [List.getElem?_append_left (List.getElem?_eq_some_iff.1 hj).1]; exact hj
theorem enc_one (L : List Nat) : ∀ u ∈ L.map enc8, u.oneCell' = true := by
  intro u hu
  obtain ⟨x, _, rfl⟩ := List.mem_map.1 hu
  rfl
theorem store_cell0 {w : World} {P : Nat} {a b x : Value} {t : TypeId} (h : w.heap[P]? = some (.cells #[a, b] t (0, 0))) : (w.setCell ⟨P, 0, none⟩ x).heap[P]? = some (.cells #[x, b] t (0, 0)) := by
  simp [World.setCell, Array.getElem?_modify, h]
theorem store_cell1 {w : World} {P : Nat} {a b x : Value} {t : TypeId} (h : w.heap[P]? = some (.cells #[a, b] t (0, 0))) : (w.setCell ⟨P, 1, none⟩ x).heap[P]? = some (.cells #[a, x] t (0, 0)) := by
  simp [World.setCell, Array.getElem?_modify, h]
theorem two_cells {w : World} {P : Nat} {a b : Value} {t : TypeId} (h : w.heap[P]? = some (.cells #[a, b] t (0, 0))) : w.cell? ⟨P, 0, none⟩ = some a ∧ w.cell? ⟨P, 1, none⟩ = some b ∧ w.frozen? ⟨P, 0, none⟩ = false ∧ w.frozen? ⟨P, 1, none⟩ = false := by
  simp [World.cell?, World.frozen?, h]
/-- Behind a store of what is there already. -/
theorem fin_found {base P g g2 k T c1 c2 : Nat} {f : Nat → Option (Int × Int)} {r : Int × Int} {q : Nat → Q} {w W : World} (hge : base ≤ P) (hk : k < 256)
    (hbW : W.heap[P]? = some (.cells #[.slice (some ⟨g, 0, none⟩) (Mk.names f).length c1, .slice (some ⟨g2, 0, none⟩) (Mk.names f).length c2] 35 (0, 0)))
    (hbw : w.heap[P]? = some (.cells #[.slice (some ⟨g, 0, none⟩) (Mk.names f).length c1, .slice (some ⟨g2, 0, none⟩) (Mk.names f).length c2] 35 (0, 0)))
    (hnW : W.ownsRow base 5 1 (.slice (some ⟨g, 0, none⟩) (Mk.names f).length c1) (Mk.names f).length ((Mk.names f).map enc8))
    (hrW : W.ownsRow base 37 2 (.slice (some ⟨g2, 0, none⟩) (Mk.names f).length c2) (Mk.names f).length ((Mk.names f).flatMap fun k => rcell (q k)))
    (hqW : ∀ k r, f k = some r → (q k).1 = r.1 ∧ (q k).2 = r.2) (hbr : Bare W g2) (hO : Only No w W) (hg2 : g2 < w.heap.size) (hT : T = (Ins.lo (has f) k).length) (hh : has f k = true) :
    RAt ((W.setCell ⟨g2, T * 2, none⟩ (.int .i64 r.1)).setCell ⟨g2, T * 2 + 1, none⟩ (.int .i64 r.2)).drew base P (updM f k (some r)) ∧
    Only (Foot w P) w ((W.setCell ⟨g2, T * 2, none⟩ (.int .i64 r.1)).setCell ⟨g2, T * 2 + 1, none⟩ (.int .i64 r.2)).drew ∧
    (∀ b, Foot ((W.setCell ⟨g2, T * 2, none⟩ (.int .i64 r.1)).setCell ⟨g2, T * 2 + 1, none⟩ (.int .i64 r.2)).drew P b → Foot w P b ∨ w.heap.size ≤ b) := by
  have hoG : Only (fun b => b = g2) W ((W.setCell ⟨g2, T * 2, none⟩ (.int .i64 r.1)).setCell ⟨g2, T * 2 + 1, none⟩ (.int .i64 r.2)).drew :=
    (((Only.refl (fun b => b = g2) W).setCell (p := ⟨g2, T * 2, none⟩) (.inr rfl) _).setCell (p := ⟨g2, T * 2 + 1, none⟩) (.inr rfl) _).drew
  obtain ⟨cg, hcg⟩ := row_block hnW (b := g) rfl
  obtain ⟨cr, hcr⟩ := row_block hrW (b := g2) rfl
  have hne1 : P ≠ g2 := by rintro rfl; rw [hbW] at hcr; cases hcr
  have hne2 : g ≠ g2 := by rintro rfl; rw [hcg] at hcr; cases hcr
  have hnm : Mk.names (updM f k (some r)) = Mk.names f := by rw [names_upd hk, names_nms, Ins.nms_split _ hk, hh, if_pos rfl]
  have hTn : (Mk.names f)[T]? = some k := by rw [hT, names_nms]; exact nm_at hk hh
  have hTl := (List.getElem?_eq_some_iff.1 hTn).1
  have hP : ((W.setCell ⟨g2, T * 2, none⟩ (.int .i64 r.1)).setCell ⟨g2, T * 2 + 1, none⟩ (.int .i64 r.2)).drew.heap[P]? = some (.cells #[.slice (some ⟨g, 0, none⟩) (Mk.names f).length c1, .slice (some ⟨g2, 0, none⟩) (Mk.names f).length c2] 35 (0, 0)) :=
    (hoG.block P (heap_lt hbW) hne1).trans hbW
  have hflat : (((Mk.names f).flatMap fun k => rcell (q k)).set (T * 2) (.int .i64 r.1)).set (T * 2 + 1) (.int .i64 r.2) = (Mk.names f).flatMap fun j => rcell (updQ q k (r.1, r.2) j) := by
    rw [← hnm, flat_upd hk, hnm, flat_split hk, hh, if_pos rfl, hT]
    have hl := flat_len (Ins.lo (has f) k) q
    rw [List.set_append_right _ _ (by omega), List.set_append_right _ _ (by omega), hl, Nat.sub_self, show (Ins.lo (has f) k).length * 2 + 1 - (Ins.lo (has f) k).length * 2 = 1 by omega]
    rfl
  refine ⟨⟨⟨_, _, updQ q k (r.1, r.2), hP, ?_, ?_, fun j r' hj => ?_, fun b hb => ?_⟩, hge⟩, ?_, fun b hb => ?_⟩
  · rw [hnm]; exact row_only hnW hoG (fun b hb e => hne2 (by cases hb; exact e))
  · rw [hnm, ← hflat]
    exact row_only (row_store hrW hTl) ((Only.refl No _).drew) (fun _ _ h => h)
  · unfold updM at hj
    unfold updQ
    by_cases e : j = k
    · rw [if_pos e] at hj ⊢
      cases hj
      exact ⟨rfl, rfl⟩
    · rw [if_neg e] at hj ⊢
      exact ⟨(hqW j r' hj).1, (hqW j r' hj).2⟩
  · cases hb
    exact trivial
  · refine (hO.mono (fun _ _ h => h.elim)).trans hoG (fun b hb e => ?_)
    subst e
    exact .inr ⟨_, _, hbw, rfl⟩
  · rcases hb with rfl | ⟨u1, u2, hu, hb⟩
    · exact .inl (.inl rfl)
    · rw [hP] at hu
      cases hu
      exact .inl (.inr ⟨_, _, hbw, hb⟩)

/-- Behind an insertion. -/
theorem fin_ins {base P g g2 k S c1 c2 : Nat} {f : Nat → Option (Int × Int)} {r : Int × Int} {q : Nat → Q} {v1 v2 : Value} {w W w' : World} (hge : base ≤ P) (hk : k < 256) (hh : Mk.names f = Ins.lo (has f) k ++ Ins.hi (has f) k)
    (hbw : w.heap[P]? = some (.cells #[v1, v2] 35 (0, 0))) (hb1 : ∃ A n c, v1 = .slice A n c) (hb2 : ∃ A n c, v2 = .slice A n c)
    (hP : w'.heap[P]? = some (.cells #[.slice (some ⟨g, 0, none⟩) S c1, .slice (some ⟨g2, 0, none⟩) S c2] 35 (0, 0)))
    (hn : w'.ownsRow base 5 1 (.slice (some ⟨g, 0, none⟩) S c1) S (((Ins.lo (has f) k).map enc8) ++ ([enc8 k] ++ ((Ins.hi (has f) k).map enc8))))
    (hr : w'.ownsRow base 37 2 (.slice (some ⟨g2, 0, none⟩) S c2) S (((Ins.lo (has f) k).flatMap fun j => rcell (q j)) ++ (rcell (r.1, r.2) ++ ((Ins.hi (has f) k).flatMap fun j => rcell (q j)))))
    (hbare : Bare w' g2) (hg2 : w.heap.size ≤ g2) (hO0 : Only No w W) (hO1 : Only (fun b => b = P) W w')
    (hq : ∀ k r, f k = some r → (q k).1 = r.1 ∧ (q k).2 = r.2) :
    RAt w' base P (updM f k (some r)) ∧ Only (Foot w P) w w' ∧ (∀ b, Foot w' P b → Foot w P b ∨ w.heap.size ≤ b) := by
  have hO : Only (fun b => b = P) w w' := (hO0.mono (fun _ _ h => h.elim)).trans' hO1
  have hPb : Bare W P := bare_cells ((hO0.block P (heap_lt hbw) (fun h => h)).trans hbw) (fun o s => by
    obtain ⟨A1, n1, c1, rfl⟩ := hb1
    obtain ⟨A2, n2, c2, rfl⟩ := hb2
    rcases o with _ | _ | o <;> simp)
  have hS : S = (Mk.names (updM f k (some r))).length := by
    have := hn.1
    rw [names_upd hk]
    simp at this ⊢
    omega
  subst hS
  refine ⟨⟨⟨_, _, updQ q k (r.1, r.2), hP, ?_, ?_, fun j r' hj => ?_, fun b hb => ?_⟩, hge⟩, hO.mono (fun b _ e => .inl e), fun b hb => ?_⟩
  · rw [names_upd hk] at hn ⊢
    rw [List.map_append, List.map_append]; exact hn
  · rw [flat_upd hk]; exact hr
  · unfold updM at hj
    unfold updQ
    by_cases e : j = k
    · rw [if_pos e] at hj ⊢
      cases hj
      exact ⟨rfl, rfl⟩
    · rw [if_neg e] at hj ⊢
      exact ⟨(hq j r' hj).1, (hq j r' hj).2⟩
  · cases hb; exact hbare
  · rcases hb with rfl | ⟨u1, u2, hu, hb⟩
    · exact .inl (.inl rfl)
    · rw [hP] at hu
      cases hu
      cases hb
      exact .inr hg2
theorem bare_new {w' : World} {g : Nat} {e : TypeId} {xs : List Value} (h : ∃ cur, w'.heap[g]? = some (.cells cur e (0, 0)) ∧ ∀ (o : Nat) (u : Value), cur[o]? = some u → u ∈ xs ∨ u ∈ (Value.cells (.agg #[.int .i64 0, .int .i64 0])).toList) (hx : ∀ u ∈ xs, ∀ s, u ≠ .string s) : Bare w' g := by
  obtain ⟨cur, hc, hu⟩ := h
  refine bare_cells hc (fun o s e => ?_)
  rcases hu o _ e with h1 | h1
  · exact hx _ h1 s rfl
  · simp [Value.cells] at h1

theorem fin7 {base P g k S c1 c9 : Nat} {f : Nat → Option (Int × Int)} {r : Int × Int} {q : Nat → Q} {v1 v2 : Value} {w W wc w1 w2 : World} (hge : base ≤ P) (hbase : base ≤ w.heap.size) (hk : k < 256) (hh : Mk.names f = Ins.lo (has f) k ++ Ins.hi (has f) k)
    (hbw : w.heap[P]? = some (.cells #[v1, v2] 35 (0, 0))) (hb1 : ∃ A n c, v1 = .slice A n c) (hb2 : ∃ A n c, v2 = .slice A n c) (hO0 : Only No w W)
    (hP7 : wc.heap[P]? = some (.cells #[.slice (some ⟨g, 0, none⟩) S c1, v2] 35 (0, 0)))
    (hown7 : wc.ownsRow W.heap.size 5 1 (.slice (some ⟨g, 0, none⟩) S c1) S (((Ins.lo (has f) k).map enc8) ++ ([enc8 k] ++ ((Ins.hi (has f) k).map enc8)))) (hO7 : Only (fun b => b = P) W wc) (hO1W : Only No wc w1) (hO2 : Only No w1 w2)
    (hown2 : w2.ownsRow w1.heap.size 37 2 (.slice (some ⟨w1.heap.size, 0, none⟩) S c9) S (((Ins.lo (has f) k).flatMap fun j => rcell (q j)) ++ (rcell (r.1, r.2) ++ ((Ins.hi (has f) k).flatMap fun j => rcell (q j)))))
    (hnew : ∃ cur, w2.heap[w1.heap.size]? = some (.cells cur 37 (0, 0)) ∧ ∀ (o : Nat) (u : Value), cur[o]? = some u → u ∈ (((Ins.lo (has f) k).flatMap fun j => rcell (q j)) ++ (rcell (r.1, r.2) ++ ((Ins.hi (has f) k).flatMap fun j => rcell (q j)))) ∨ u ∈ (Value.cells (.agg #[.int .i64 0, .int .i64 0])).toList)
    (hq : ∀ k r, f k = some r → (q k).1 = r.1 ∧ (q k).2 = r.2) :
    RAt (w2.setCell ⟨P, 1, none⟩ (.slice (some ⟨w1.heap.size, 0, none⟩) S c9)) base P (updM f k (some r)) ∧ Only (Foot w P) w (w2.setCell ⟨P, 1, none⟩ (.slice (some ⟨w1.heap.size, 0, none⟩) S c9)) ∧ (∀ b, Foot (w2.setCell ⟨P, 1, none⟩ (.slice (some ⟨w1.heap.size, 0, none⟩) S c9)) P b → Foot w P b ∨ w.heap.size ≤ b) := by
  have hOc2 := hO1W.trans' hO2
  have hset : ∀ X, Only (fun b => b = P) w2 (w2.setCell ⟨P, 1, none⟩ X) := fun X => (Only.refl (fun b => b = P) w2).setCell (p := ⟨P, 1, none⟩) (.inr rfl) _
  have hP2 : w2.heap[P]? = some (.cells #[.slice (some ⟨g, 0, none⟩) S c1, v2] 35 (0, 0)) := (hOc2.block P (heap_lt hP7) (fun h => h)).trans hP7
  have s0 := hO0.size
  have s1 := hO7.size
  have s2 := hO1W.size
  have s3 := heap_lt hbw
  have hgl := hown7.lt g rfl
  obtain ⟨cur, hcur, hmem⟩ := hnew
  refine fin_ins (q := q) (W := W) hge hk hh hbw hb1 hb2 (store_cell1 hP2) ?_ ?_ ?_ ?_ hO0 ((hO7.trans' (hOc2.mono (fun _ _ h => h.elim))).trans' (hset _)) hq
  · exact row_only (row_lower (row_only hown7 hOc2 (fun _ _ h => h)) (by omega)) (hset _) (fun b hb e => by cases hb; have e' : g = P := e; omega)
  · exact row_only (row_lower hown2 (by omega)) (hset _) (fun b hb e => by cases hb; have e' : w1.heap.size = P := e; omega)
  · refine bare_new ⟨cur, (Below.heap_setCell _ _ _ _ (by show w1.heap.size ≠ P; omega)).trans hcur, hmem⟩ (fun u hu s => ?_)
    rcases List.mem_append.1 hu with h | h
    · exact (flat_one _ _ u h).2 s
    · rcases List.mem_append.1 h with h | h
      · simp [rcell] at h
        rcases h with rfl | rfl <;> simp
      · exact (flat_one _ _ u h).2 s
  · omega

set_option maxHeartbeats 4000000 in
set_option maxRecDepth 100000 in
theorem mset_calls (base P : Nat) (f : Nat → Option (Int × Int)) (k : Nat) (r : Int × Int) (w : World) (h : RAt w base P f) (hk : k < 256) (hok : okName k = true) (hbase : base ≤ w.heap.size) :
    Calls Try.prog 13 #[.pointer (some ⟨P, 0, none⟩), .int .u8 (k : Int), posV r] w fun e w' => e = .returned (.bool true) ∧ RAt w' base P (updM f k (some r)) ∧ Only (Foot w P) w w' ∧ (∀ b, Foot w' P b → Foot w P b ∨ w.heap.size ≤ b) := by
  obtain ⟨v1, v2, q, hbox, hn, hr, hq, hbr⟩ := h.ex
  obtain ⟨A1, c1, rfl, hat1, hc1, hm1, hnl1, hxl1, hs1⟩ := row_shape hn
  obtain ⟨A2, c2, rfl, hat2, hc2, hm2, hnl2, hxl2, hs2⟩ := row_shape hr
  have hA1 : A1 = none ∨ ∃ g, A1 = some ⟨g, 0, none⟩ := by
    rcases hn.2 with ⟨h0, _⟩ | ⟨g, cap, cur, h0, _⟩
    · simp only [Value.slice.injEq] at h0; exact .inl h0.1
    · simp only [Value.slice.injEq] at h0; exact .inr ⟨g, h0.1⟩
  have hA2 : A2 = none ∨ ∃ g, A2 = some ⟨g, 0, none⟩ := by
    rcases hr.2 with ⟨h0, _⟩ | ⟨g, cap, cur, h0, _⟩
    · simp only [Value.slice.injEq] at h0; exact .inl h0.1
    · simp only [Value.slice.injEq] at h0; exact .inr ⟨g, h0.1⟩
  unfold maxLen at hm1 hm2
  have hin : (k = 96) ∨ (97 ≤ k ∧ k ≤ 122) := by simp [okName] at hok; omega
  have HIN := Lib.hid hin
  clear hin hok
  unfold posV
  have hN256 : (Mk.names f).length ≤ 256 := Ins.nms_length _
  obtain ⟨W, hW⟩ : ∃ W, w.alloc (.cells #[.int .i64 r.1, .int .i64 r.2] 37) = W := ⟨_, rfl⟩
  have hO : Only No w W := by rw [← hW]; exact (Only.refl _ w).alloc _
  have hWs : W.heap.size = w.heap.size + 1 := by rw [← hW]; simp
  have hf0 : W.heap[w.heap.size]? = some (.cells #[.int .i64 r.1, .int .i64 r.2] 37 (0, 0)) := by rw [← hW]; exact alloc_new _ _
  obtain ⟨f0, f1, _, _⟩ := two_cells hf0
  have hbW : W.heap[P]? = some (.cells #[.slice A1 (Mk.names f).length c1, .slice A2 (Mk.names f).length c2] 35 (0, 0)) := (hO.block P (heap_lt hbox) (fun h => h)).trans hbox
  have p0 : W.cell? ⟨P, 0, none⟩ = some (.slice A1 (Mk.names f).length c1) := by simp [World.cell?, hbW]
  have p1 : W.cell? ⟨P, 1, none⟩ = some (.slice A2 (Mk.names f).length c2) := by simp [World.cell?, hbW]
  have hnW := row_only hn hO (fun _ _ h => h)
  have hrW := row_only hr hO (fun _ _ h => h)
  have hqW : ∀ k r, f k = some r → (q k).1 = r.1 ∧ (q k).2 = r.2 := fun k r hk => ⟨(hq k r hk).1, (hq k r hk).2⟩
  have hLW : True := trivial
  obtain ⟨T, hT⟩ : ∃ T, T = (Ins.lo (has f) k).length := ⟨_, rfl⟩
  obtain ⟨N, hN⟩ : ∃ N, (Mk.names f).length = N := ⟨_, rfl⟩
  have hlen := nm_len (p := has f) hk
  rw [← names_nms, hN, ← hT] at hlen
  have hTN : T ≤ N := by omega
  have hbef : ∀ j, j < T → ∃ x g, A1 = some ⟨g, 0, none⟩ ∧ W.cell? ⟨g, j, none⟩ = some (.int .u8 ((x : Nat) : Int)) ∧ x < k := by
    intro j hj
    have hjN : j < (Mk.names f).length := by omega
    obtain ⟨g, hg⟩ := hs1 (by omega)
    subst hg
    obtain ⟨y, hy, hyk⟩ := nm_lt (p := has f) hk (by omega : j < (Ins.lo (has f) k).length)
    have hc := hnW.cellAt j (by omega)
    rw [← names_nms] at hy
    rw [List.getElem?_map, hy] at hc
    exact ⟨_, g, rfl, hc, hyk⟩
  have htri : (has f k = true ∧ T < N ∧ ∃ g g2, A1 = some ⟨g, 0, none⟩ ∧ A2 = some ⟨g2, 0, none⟩ ∧ W.cell? ⟨g, T, none⟩ = some (.int .u8 ((k : Nat) : Int)) ∧ (∃ u, W.cell? ⟨g2, T * 2, none⟩ = some u) ∧ (∃ u, W.cell? ⟨g2, T * 2 + 1, none⟩ = some u) ∧ W.frozen? ⟨g2, T * 2, none⟩ = false ∧ W.frozen? ⟨g2, T * 2 + 1, none⟩ = false) ∨
      (has f k = false ∧ T < N ∧ ∃ x g, A1 = some ⟨g, 0, none⟩ ∧ W.cell? ⟨g, T, none⟩ = some (.int .u8 ((x : Nat) : Int)) ∧ k < x) ∨ (has f k = false ∧ T = N) := by
    cases hh : has f k with
    | true =>
      left
      have hx := nm_at hk hh
      rw [hh] at hlen
      simp only [if_true, List.length_singleton] at hlen
      rw [← names_nms, ← hT] at hx
      obtain ⟨g, hg⟩ := hs1 (by omega)
      obtain ⟨g2, hg2⟩ := hs2 (by omega)
      subst hg
      subst hg2
      have hc := hnW.cellAt T (by omega)
      rw [List.getElem?_map, hx] at hc
      obtain ⟨h3, h4⟩ := flat_at (Mk.names f) q hx
      have hc3 := hrW.cellAt (T * 2) (by omega)
      have hc4 := hrW.cellAt (T * 2 + 1) (by omega)
      rw [h3] at hc3
      rw [h4] at hc4
      obtain ⟨cur, hcur⟩ := row_block hrW (b := g2) rfl
      exact ⟨rfl, by omega, g, g2, rfl, rfl, hc, ⟨_, hc3⟩, ⟨_, hc4⟩, by simp [World.frozen?, hcur], by simp [World.frozen?, hcur]⟩
    | false =>
      right
      rw [hh] at hlen
      by_cases hTN2 : T < N
      · left
        obtain ⟨g, hg⟩ := hs1 (by omega)
        subst hg
        have hx : (Mk.names f)[T]? = some ((Mk.names f)[T]'(by omega)) := List.getElem?_eq_getElem (by omega)
        have hc := hnW.cellAt T (by omega)
        rw [List.getElem?_map, hx] at hc
        exact ⟨rfl, hTN2, _, g, rfl, hc, nm_gt hk hh (by rw [← names_nms, ← hT]; exact hx)⟩
      · exact .inr ⟨rfl, by omega⟩
  rw [hN] at p0 p1 hc1 hc2 hN256 hbW
  have hsd1 := Ins.slice_head sliceByte sizeByte hA1 (n := N) (c := c1) (T := T) (by omega)
  have hsd2 := Ins.slice_head slicePos sizePos hA2 (n := N) (c := c2) (T := T) (by omega)
  obtain ⟨B1, hst1, hB1n, hB1, _⟩ := Ins.slice_tail sliceByte sizeByte hA1 (n := N) (c := c1) (T := T) hTN hc1 hnl1
  obtain ⟨B2, hst2, hB2n, hB2, hB2o⟩ := Ins.slice_tail slicePos sizePos hA2 (n := N) (c := c2) (T := T) hTN hc2 hnl2
  have HB := Lib.hid hbef
  clear hbef
  rcases htri with ⟨hh, hTN2, g, g2, rfl, rfl, hcT, ⟨u3, hc3⟩, ⟨u4, hc4⟩, hz3, hz4⟩ | hno
  · have g1 : (((k : Nat) : Int) == (k : Int)) = true := beq_iff_eq.2 rfl
    clear hsd1 hsd2 hst1 hst2 hB1 hB2 hB1n hB2n hB2o
    have HALL := Lib.hid (And.intro hbW (And.intro hnW (And.intro hrW (And.intro hqW (And.intro hLW (And.intro hO (And.intro hWs (And.intro hN (And.intro hT (And.intro hh (And.intro hbox (And.intro (show Bare W g2 from trivial) (And.intro h.ge (hr.lt g2 rfl).2)))))))))))))
    clear hbW hnW hrW hqW hLW hO hWs hN hT hlen hn hr hq hbr hbox hat1 hat2 hxl1 hxl2 hs1 hs2 hnl1 hnl2 hA1 hA2 h hf0 hh
    go_enter Try.func13, Try.ntmps13
    go_upto_region 1 with (fail)
    go_cut [18] (fun s18 wx => W = wx ∧ s18 = .bool false)
    case first =>
      rcases HIN.out with rfl | ⟨hi1, hi2⟩
      · go_wp2_with fail
        go_meet
        exact ⟨rfl, rfl⟩
      · have i1 : (97 : Int) ≤ (k : Int) := by omega
        have i2 : (k : Int) ≤ 122 := by omega
        go_wp2_with fail
        go_meet
        exact ⟨rfl, rfl⟩
    obtain ⟨rfl, rfl⟩ := hcut
    go_wp2_with fail
    go_loop [7] (fun i => ∃ j : Nat, i = .int .i64 (j : Int) ∧ j ≤ T) (fun i => N - (intOf i).toNat)
    case atStart => exact ⟨0, rfl, by omega⟩
    case round =>
      obtain ⟨j, rfl, hj⟩ := hrel
      by_cases hjT : j < T
      · obtain ⟨x, g', hg', hc, hx⟩ := HB.out j hjT
        simp only [Option.some.injEq, Addr.mk.injEq, and_true] at hg'
        subst hg'
        have g1 : ((x : Nat) : Int) < (k : Int) := by omega
        have g2 : j < N := by omega
        go_wp2_with fail
        go_round
        case rel => exact ⟨j + 1, by first | rfl | (simp; done) | (simp; omega), by omega⟩
        case measure => first | (simp [intOf]; done) | (simp [intOf]; omega)
      · obtain rfl : j = T := by omega
        have g3 : ¬ ((k : Nat) : Int) < (k : Int) := by omega
        go_wp2_with fail
        go_region
        all_goals (go_wp2_with fail)
        all_goals (
          obtain ⟨hbW, hnW, hrW, hqW, hLW, hO, hWs, hN, hT, hh, hbw, hbr, hge, hlt2⟩ := HALL.out
          subst hN
          go_ret
          exact ⟨rfl, fin_found hge hk hbW hbw hnW hrW hqW hbr hO hlt2 hT hh⟩)
  · have hh : has f k = false := by rcases hno with ⟨h, _⟩ | ⟨h, _⟩ <;> exact h
    have hno2 : (T < N ∧ ∃ x g, A1 = some ⟨g, 0, none⟩ ∧ W.cell? ⟨g, T, none⟩ = some (.int .u8 ((x : Nat) : Int)) ∧ k < x) ∨ T = N := by
      rcases hno with ⟨_, h1, h2⟩ | ⟨_, h1⟩
      · exact .inl ⟨h1, h2⟩
      · exact .inr h1
    have hnsp : Mk.names f = Ins.lo (has f) k ++ Ins.hi (has f) k := by rw [names_nms, Ins.nms_split _ hk, hh]; rfl
    have hhi : (Ins.hi (has f) k).length = N - T := by rw [hh] at hlen; simp at hlen; omega
    have hat1W := hat1.no hO
    have hat2W := hat2.no hO
    have ho1 : Ins.At W A1 ((Ins.lo (has f) k).map enc8) := by rw [hnsp, List.map_append] at hat1W; exact at_prefix hat1W
    have hi1 : Ins.At W B1 ((Ins.hi (has f) k).map enc8) := by
      have := hB1 W _ (by rw [hxl1, hN]) hat1W
      rw [hnsp, List.map_append, List.drop_append_of_le_length (by simp [hT]), List.drop_of_length_le (by simp [hT]), List.nil_append] at this
      exact this
    have fsp : ((Mk.names f).flatMap fun j => rcell (q j)) = ((Ins.lo (has f) k).flatMap fun j => rcell (q j)) ++ ((Ins.hi (has f) k).flatMap fun j => rcell (q j)) := by rw [hnsp, List.flatMap_append]
    have ho2 : Ins.At W A2 ((Ins.lo (has f) k).flatMap fun j => rcell (q j)) := by rw [fsp] at hat2W; exact at_prefix hat2W
    have hi2 : Ins.At W B2 ((Ins.hi (has f) k).flatMap fun j => rcell (q j)) := by
      have := hB2 W _ (by rw [hxl2, hN]) hat2W
      have hl := flat_len (Ins.lo (has f) k) q
      rw [fsp, List.drop_append_of_le_length (by rw [hl, hT]; exact Nat.le_refl _), List.drop_of_length_le (by rw [hl, hT]; exact Nat.le_refl _), List.nil_append] at this
      exact this
    clear hno hB1 hB2 hat1W hat2W fsp
    have hA2P : ∀ b o, A2 = some ⟨b, o, none⟩ → b ≠ P := by
      intro b o e hb
      subst e
      subst hb
      obtain ⟨cur, hcur⟩ := row_block hr (b := b) rfl
      rw [hbox] at hcur
      cases hcur
    have hB2P : ∀ b o, B2 = some ⟨b, o, none⟩ → b ≠ P := by
      intro b o e
      obtain ⟨o', e'⟩ := hB2o b o e
      exact hA2P b o' e'
    obtain ⟨i1, hi1i, hz1a, hz1b, hz1c⟩ := info_parts infoByte
    obtain ⟨i2, hi2i, hz2a, hz2b, hz2c⟩ := info_parts infoPos
    have HI1 := Lib.hid (And.intro hi1i (And.intro hz1a (And.intro hz1b hz1c)))
    have HI2 := Lib.hid (And.intro hi2i (And.intro hz2a (And.intro hz2b hz2c)))
    have HLO := Lib.hid (show ((Ins.lo (has f) k).map enc8).length = T * 1 ∧ ((Ins.hi (has f) k).map enc8).length = (N - T) * 1 ∧ ((Ins.lo (has f) k).flatMap fun j => rcell (q j)).length = T * 2 ∧ ((Ins.hi (has f) k).flatMap fun j => rcell (q j)).length = (N - T) * 2 from ⟨by rw [List.length_map, hT]; omega, by rw [List.length_map, hhi]; omega, by rw [flat_len, hT], by rw [flat_len, hhi]⟩)
    have H1 := Lib.hid (And.intro ho1 hi1)
    have H2 := Lib.hid (And.intro (show ∀ w', Only (fun b => b = P) W w' → Ins.At w' A2 ((Ins.lo (has f) k).flatMap fun j => rcell (q j)) from fun w' ho => ho2.only ho (fun b o e => hA2P b o e)) (show ∀ w', Only (fun b => b = P) W w' → Ins.At w' B2 ((Ins.hi (has f) k).flatMap fun j => rcell (q j)) from fun w' ho => hi2.only ho (fun b o e => hB2P b o e)))
    have HPW := Lib.hid hbW
    have HF0 := Lib.hid hf0
    have HALL := Lib.hid (And.intro hqW (And.intro hLW (And.intro hO (And.intro hWs (And.intro hN (And.intro hT (And.intro hbox (And.intro h.ge hnsp))))))))
    have HNIL := Lib.hid (And.intro hB1n hB2n)
    have HSD := Lib.hid (And.intro hsd2 hst2)
    clear hsd2 hst2 hB2o
    clear hi1i hz1a hz1b hz1c hi2i hz2a hz2b hz2c ho1 hi1 ho2 hi2 hqW hLW hO hWs hN hT hlen hn hr hq hbr hbox hat1 hat2 hxl1 hxl2 hs1 hs2 hnl1 hnl2 hA1 hA2 h hf0 hh hhi hB1n hB2n hnsp hA2P hB2P
    obtain ⟨_, _, z0, z1⟩ := two_cells HPW.out
    have n0 := World.new_ne W ⟨P, 0, none⟩ p0
    have hPlt : P < W.heap.size := heap_lt HPW.out
    clear hnW hrW hbW
    have HNE := Lib.hid (show w.heap.size = P → False from fun e => by have := heap_lt HALL.out.2.2.2.2.2.2.1; omega)
    rcases hno2 with ⟨hTN2, x, g, rfl, hcT, hxk⟩ | hTe
    · have g1 : (((x : Nat) : Int) == (k : Int)) = false := by rw [beq_eq_false_iff_ne]; omega
      have g3 : ¬ ((x : Nat) : Int) < (k : Int) := by omega
      go_enter Try.func13, Try.ntmps13
      go_upto_region 1 with (fail)
      go_cut [18] (fun s18 wx => W = wx ∧ s18 = .bool false)
      case first =>
        rcases HIN.out with rfl | ⟨hi1, hi2⟩
        · go_wp2_with fail
          go_meet
          exact ⟨rfl, rfl⟩
        · have i1 : (97 : Int) ≤ (k : Int) := by omega
          have i2 : (k : Int) ≤ 122 := by omega
          go_wp2_with fail
          go_meet
          exact ⟨rfl, rfl⟩
      obtain ⟨rfl, rfl⟩ := hcut
      go_wp2_with fail
      go_loop [7] (fun i => ∃ j : Nat, i = .int .i64 (j : Int) ∧ j ≤ T) (fun i => N - (intOf i).toNat)
      case atStart => exact ⟨0, rfl, by omega⟩
      case round =>
        obtain ⟨j, rfl, hj⟩ := hrel
        by_cases hjT : j < T
        · obtain ⟨x', g', hg', hc, hx⟩ := HB.out j hjT
          simp only [Option.some.injEq, Addr.mk.injEq, and_true] at hg'
          subst hg'
          have g1 : ((x' : Nat) : Int) < (k : Int) := by omega
          have g2 : j < N := by omega
          go_wp2_with fail
          go_round
          case rel => exact ⟨j + 1, by first | rfl | (simp; done) | (simp; omega), by omega⟩
          case measure => first | (simp [intOf]; done) | (simp [intOf]; omega)
        · obtain rfl : j = T := by omega
          go_upto_region 9 with (fail)
          go_cut [] (fun wx => Mid W wx P (j + (1 + (N - j))) (((Ins.lo (has f) k).map enc8) ++ ([enc8 k] ++ ((Ins.hi (has f) k).map enc8))) (.slice A2 N c2))
          case first =>
            go_region_law
              (first
                | (obtain ⟨c9, w2, hr2, hown2, hO2, _⟩ := Ins.run_fresh (ty := 32) (A := some ⟨g, 0, none⟩) (s := j) (B := some ⟨b1, 0, none⟩) (n := 1 + (N - j)) (c := c8) Try.underlying32 HI1.out.1 HI1.out.2.1 HI1.out.2.2.1 HI1.out.2.2.2 rfl (by decide) (by decide) (H1.out.1.no hO1W) HLO.out.1 ha1 (by rw [List.length_append, HLO.out.2.1]; simp; try omega) (by intro u hu; rcases List.mem_append.1 hu with hu | hu; (simp at hu; subst hu; rfl); exact enc_one _ u hu) (by omega) (by omega); refine Ins.step_run rfl _ _ (by rfl) _ _ (by rfl) (by rfl) _ _ hr2 ?_; have hO2W := hO1W.trans' hO2; have hP2 := (hO2W.block P hPlt (fun h => h)).trans HPW.out; (obtain ⟨k0, k1, k2, k3⟩ := two_cells hP2))
                | (obtain ⟨b1, c8, w1, hr1, ha1, hO1⟩ := Ins.run_one (ty := 32) (w := (W.alloc (.cells #[.int .u8 (k : Int)] 5)).drew) (g := W.heap.size) (B := B1) (n := N - j) (c := c1 - j) Try.underlying32 HI1.out.1 HI1.out.2.1 HI1.out.2.2.1 HI1.out.2.2.2 rfl (by decide) (by decide) (alloc_new W _) rfl (H1.out.2.no (((Only.refl No W).alloc _).drew)) HLO.out.2.1 (enc_one _) HNIL.out.1 (by omega); refine Ins.step_run rfl _ _ (by rfl) _ _ (by rfl) (by rfl) _ _ hr1 ?_; have hO1W : Only No W w1 := (((Only.refl No W).alloc _).drew).trans' hO1; have hP1 := (hO1W.block P hPlt (fun h => h)).trans HPW.out; (obtain ⟨k0, k1, k2, k3⟩ := two_cells hP1)))
            all_goals (go_wp2_with fail; go_meet)
            all_goals exact ⟨⟨_, _, store_cell0 hP2, row_only (row_lower hown2 hO1W.size) ((Only.refl (fun b => b = P) w2).setCell (p := ⟨P, 0, none⟩) (.inr rfl) _) (fun b hb e => by cases hb; have e' : w1.heap.size = P := e; have := hO1W.size; omega)⟩, (hO2W.mono (fun _ _ h => h.elim)).trans' ((Only.refl (fun b => b = P) w2).setCell (p := ⟨P, 0, none⟩) (.inr rfl) _)⟩
          case rest =>
            obtain ⟨⟨g', c', hP7, hown7⟩, hO7⟩ := hcut
            have hF7 := (hO7.block w.heap.size (heap_lt HF0.out) (fun e => HNE.out e)).trans HF0.out
            have hP7lt := heap_lt hP7
            have hP7g := hO7.size
            clear p0 p1 f0 f1 z0 z1 n0
            obtain ⟨p0, p1, z0, z1⟩ := two_cells hP7
            obtain ⟨f0, f1, _, _⟩ := two_cells hF7
            have n0 := World.new_ne wc ⟨P, 0, none⟩ p0
            have n1 := World.new_ne wc ⟨w.heap.size, 0, none⟩ f0
            have hF7lt := heap_lt hF7
            have hsd2 := HSD.out.1
            have hst2 := HSD.out.2
            have H7 := Lib.hid (And.intro hP7 (And.intro hown7 hO7))
            clear hP7 hown7 hO7 hF7
            go_wp2_with fail
            go_region_law
              (first
                | (obtain ⟨c9, w2, hr2, hown2, hO2, hnew⟩ := Ins.run_fresh (ty := 33) (A := A2) (s := j) (B := some ⟨b1, 0, none⟩) (n := 1 + (N - j)) (c := c8) Try.underlying33 HI2.out.1 HI2.out.2.1 HI2.out.2.2.1 HI2.out.2.2.2 rfl (by decide) (by decide) ((H2.out.1 wc H7.out.2.2).no hO1W) HLO.out.2.2.1 ha1 (by rw [List.length_append, HLO.out.2.2.2]; simp; try omega) (by intro u hu; rcases List.mem_append.1 hu with hu | hu; (simp at hu; rcases hu with rfl | rfl <;> rfl); exact (flat_one _ _ u hu).1) (by omega) (by omega); refine Ins.step_run rfl _ _ (by rfl) _ _ (by rfl) (by rfl) _ _ hr2 ?_; have hO2W := hO1W.trans' hO2; have hP2 := (hO2W.block P hP7lt (fun h => h)).trans H7.out.1; (obtain ⟨k0, k1, k2, k3⟩ := two_cells hP2))
                | (obtain ⟨b1, c8, w1, hr1, ha1, hO1⟩ := Ins.run_one (ty := 33) (w := (wc.alloc (.cells #[.int .i64 r.1, .int .i64 r.2] 37)).drew) (g := wc.heap.size) (B := B2) (n := N - j) (c := c2 - j) Try.underlying33 HI2.out.1 HI2.out.2.1 HI2.out.2.2.1 HI2.out.2.2.2 rfl (by decide) (by decide) (alloc_new wc _) rfl ((H2.out.2 wc H7.out.2.2).no (((Only.refl No wc).alloc _).drew)) HLO.out.2.2.2 (fun u hu => (flat_one _ _ u hu).1) HNIL.out.2 (by omega); refine Ins.step_run rfl _ _ (by rfl) _ _ (by rfl) (by rfl) _ _ hr1 ?_; have hO1W : Only No wc w1 := (((Only.refl No wc).alloc _).drew).trans' hO1; have hP1 := (hO1W.block P hP7lt (fun h => h)).trans H7.out.1; (obtain ⟨k0, k1, k2, k3⟩ := two_cells hP1)))
            all_goals (go_wp2_with fail)
            all_goals (
              go_ret
              obtain ⟨hqW, hLW, hO, hWs, hN, hT, hbox, hge, hnsp⟩ := HALL.out
              obtain ⟨hP7, hown7, hO7⟩ := H7.out
              subst hN
              exact ⟨rfl, fin7 (q := q) hge hbase hk hnsp hbox ⟨_, _, _, rfl⟩ ⟨_, _, _, rfl⟩ hO hP7 hown7 hO7 hO1W hO2 hown2 hnew hqW⟩)
    · have g3 : ¬ T < N := by omega
      clear hTe
      have g4 : ¬ (T : Int) < (N : Int) := by omega
      go_enter Try.func13, Try.ntmps13
      go_upto_region 1 with (fail)
      go_cut [18] (fun s18 wx => W = wx ∧ s18 = .bool false)
      case first =>
        rcases HIN.out with rfl | ⟨hi1, hi2⟩
        · go_wp2_with fail
          go_meet
          exact ⟨rfl, rfl⟩
        · have i1 : (97 : Int) ≤ (k : Int) := by omega
          have i2 : (k : Int) ≤ 122 := by omega
          go_wp2_with fail
          go_meet
          exact ⟨rfl, rfl⟩
      obtain ⟨rfl, rfl⟩ := hcut
      go_wp2_with fail
      go_loop [7] (fun i => ∃ j : Nat, i = .int .i64 (j : Int) ∧ j ≤ T) (fun i => N - (intOf i).toNat)
      case atStart => exact ⟨0, rfl, by omega⟩
      case round =>
        obtain ⟨j, rfl, hj⟩ := hrel
        by_cases hjT : j < T
        · obtain ⟨x', g', rfl, hc, hx⟩ := HB.out j hjT
          have g1 : ((x' : Nat) : Int) < (k : Int) := by omega
          have g2 : j < N := by omega
          go_wp2_with fail
          go_round
          case rel => exact ⟨j + 1, by first | rfl | (simp; done) | (simp; omega), by omega⟩
          case measure => first | (simp [intOf]; done) | (simp [intOf]; omega)
        · obtain rfl : j = T := by omega
          go_upto_region 9 with (fail)
          go_cut [] (fun wx => Mid W wx P (j + (1 + (N - j))) (((Ins.lo (has f) k).map enc8) ++ ([enc8 k] ++ ((Ins.hi (has f) k).map enc8))) (.slice A2 N c2))
          case first =>
            go_region_law
              (first
                | (obtain ⟨c9, w2, hr2, hown2, hO2, _⟩ := Ins.run_fresh (ty := 32) (A := A1) (s := j) (B := some ⟨b1, 0, none⟩) (n := 1 + (N - j)) (c := c8) Try.underlying32 HI1.out.1 HI1.out.2.1 HI1.out.2.2.1 HI1.out.2.2.2 rfl (by decide) (by decide) (H1.out.1.no hO1W) HLO.out.1 ha1 (by rw [List.length_append, HLO.out.2.1]; simp; try omega) (by intro u hu; rcases List.mem_append.1 hu with hu | hu; (simp at hu; subst hu; rfl); exact enc_one _ u hu) (by omega) (by omega); refine Ins.step_run rfl _ _ (by rfl) _ _ (by rfl) (by rfl) _ _ hr2 ?_; have hO2W := hO1W.trans' hO2; have hP2 := (hO2W.block P hPlt (fun h => h)).trans HPW.out; (obtain ⟨k0, k1, k2, k3⟩ := two_cells hP2))
                | (obtain ⟨b1, c8, w1, hr1, ha1, hO1⟩ := Ins.run_one (ty := 32) (w := (W.alloc (.cells #[.int .u8 (k : Int)] 5)).drew) (g := W.heap.size) (B := B1) (n := N - j) (c := c1 - j) Try.underlying32 HI1.out.1 HI1.out.2.1 HI1.out.2.2.1 HI1.out.2.2.2 rfl (by decide) (by decide) (alloc_new W _) rfl (H1.out.2.no (((Only.refl No W).alloc _).drew)) HLO.out.2.1 (enc_one _) HNIL.out.1 (by omega); refine Ins.step_run rfl _ _ (by rfl) _ _ (by rfl) (by rfl) _ _ hr1 ?_; have hO1W : Only No W w1 := (((Only.refl No W).alloc _).drew).trans' hO1; have hP1 := (hO1W.block P hPlt (fun h => h)).trans HPW.out; (obtain ⟨k0, k1, k2, k3⟩ := two_cells hP1)))
            all_goals (go_wp2_with fail; go_meet)
            all_goals exact ⟨⟨_, _, store_cell0 hP2, row_only (row_lower hown2 hO1W.size) ((Only.refl (fun b => b = P) w2).setCell (p := ⟨P, 0, none⟩) (.inr rfl) _) (fun b hb e => by cases hb; have e' : w1.heap.size = P := e; have := hO1W.size; omega)⟩, (hO2W.mono (fun _ _ h => h.elim)).trans' ((Only.refl (fun b => b = P) w2).setCell (p := ⟨P, 0, none⟩) (.inr rfl) _)⟩
          case rest =>
            obtain ⟨⟨g', c', hP7, hown7⟩, hO7⟩ := hcut
            have hF7 := (hO7.block w.heap.size (heap_lt HF0.out) (fun e => HNE.out e)).trans HF0.out
            have hP7lt := heap_lt hP7
            have hP7g := hO7.size
            clear p0 p1 f0 f1 z0 z1 n0
            obtain ⟨p0, p1, z0, z1⟩ := two_cells hP7
            obtain ⟨f0, f1, _, _⟩ := two_cells hF7
            have n0 := World.new_ne wc ⟨P, 0, none⟩ p0
            have n1 := World.new_ne wc ⟨w.heap.size, 0, none⟩ f0
            have hF7lt := heap_lt hF7
            have hsd2 := HSD.out.1
            have hst2 := HSD.out.2
            have H7 := Lib.hid (And.intro hP7 (And.intro hown7 hO7))
            clear hP7 hown7 hO7 hF7
            go_wp2_with fail
            go_region_law
              (first
                | (obtain ⟨c9, w2, hr2, hown2, hO2, hnew⟩ := Ins.run_fresh (ty := 33) (A := A2) (s := j) (B := some ⟨b1, 0, none⟩) (n := 1 + (N - j)) (c := c8) Try.underlying33 HI2.out.1 HI2.out.2.1 HI2.out.2.2.1 HI2.out.2.2.2 rfl (by decide) (by decide) ((H2.out.1 wc H7.out.2.2).no hO1W) HLO.out.2.2.1 ha1 (by rw [List.length_append, HLO.out.2.2.2]; simp; try omega) (by intro u hu; rcases List.mem_append.1 hu with hu | hu; (simp at hu; rcases hu with rfl | rfl <;> rfl); exact (flat_one _ _ u hu).1) (by omega) (by omega); refine Ins.step_run rfl _ _ (by rfl) _ _ (by rfl) (by rfl) _ _ hr2 ?_; have hO2W := hO1W.trans' hO2; have hP2 := (hO2W.block P hP7lt (fun h => h)).trans H7.out.1; (obtain ⟨k0, k1, k2, k3⟩ := two_cells hP2))
                | (obtain ⟨b1, c8, w1, hr1, ha1, hO1⟩ := Ins.run_one (ty := 33) (w := (wc.alloc (.cells #[.int .i64 r.1, .int .i64 r.2] 37)).drew) (g := wc.heap.size) (B := B2) (n := N - j) (c := c2 - j) Try.underlying33 HI2.out.1 HI2.out.2.1 HI2.out.2.2.1 HI2.out.2.2.2 rfl (by decide) (by decide) (alloc_new wc _) rfl ((H2.out.2 wc H7.out.2.2).no (((Only.refl No wc).alloc _).drew)) HLO.out.2.2.2 (fun u hu => (flat_one _ _ u hu).1) HNIL.out.2 (by omega); refine Ins.step_run rfl _ _ (by rfl) _ _ (by rfl) (by rfl) _ _ hr1 ?_; have hO1W : Only No wc w1 := (((Only.refl No wc).alloc _).drew).trans' hO1; have hP1 := (hO1W.block P hP7lt (fun h => h)).trans H7.out.1; (obtain ⟨k0, k1, k2, k3⟩ := two_cells hP1)))
            all_goals (go_wp2_with fail)
            all_goals (
              go_ret
              obtain ⟨hqW, hLW, hO, hWs, hN, hT, hbox, hge, hnsp⟩ := HALL.out
              obtain ⟨hP7, hown7, hO7⟩ := H7.out
              subst hN
              exact ⟨rfl, fin7 (q := q) hge hbase hk hnsp hbox ⟨_, _, _, rfl⟩ ⟨_, _, _, rfl⟩ hO hP7 hown7 hO7 hO1W hO2 hown2 hnew hqW⟩)
end Go.Proofs.Ytlmghmndojfjpaa.Mf
