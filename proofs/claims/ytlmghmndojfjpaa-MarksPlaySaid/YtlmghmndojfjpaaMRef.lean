/- The document's marks: what they are; Get, walked; no condition. -/
import Derived.Test.YtlmghmndojfjpaaMarksNames
import Derived.Test.YtlmghmndojfjpaaIns
import Derived.BigRegion
import Derived.Deep.RegionHeld3
import Derived.Deep.DrawnRows
namespace Go.Proofs.Ytlmghmndojfjpaa.Mf
open Go.RowKit Go.Proofs.Ytlmghmndojfjpaa.MapRaw Go.Proofs.Ytlmghmndojfjpaa.Frm Go.Proofs.Ytlmghmndojfjpaa.Mk Go.Proofs.Ytlmghmndojfjpaa.Keys
set_option linter.unusedVariables false
set_option linter.unusedSimpArgs false
attribute [local go_sem ↓] Go.wp_at_zero Go.wp_at_succ

def Bare (w : World) (b : Nat) : Prop := True
theorem bare_cells {w : World} {M : Nat} {cs : Array Value} {t : TypeId} {fr : Nat × Nat} (h : w.heap[M]? = some (.cells cs t fr)) (hc : ∀ (o : Nat) s, cs[o]? ≠ some (.string s)) : Bare w M := trivial
theorem infoPos : (Try.prog.info? 37).map (fun i => (i.zero, i.size, i.bytes)) = some (some (.agg #[.int .i64 0, .int .i64 0]), 2, 16) := by kernel_rfl

/-- A register as it lies in a row: its kind, its slice. -/
abbrev Q := Int × Int
def rcell (x : Q) : List Value := [.int .i64 x.1, .int .i64 x.2]
def has (f : Nat → Option (Int × Int)) (k : Nat) : Bool := (f k).isSome
theorem names_nms (f : Nat → Option (Int × Int)) : Mk.names f = Ins.nms (has f) := rfl

/-- At block P lies the document's file, that holds f; its rows are the call's own. -/
structure RAt (w : World) (base P : Nat) (f : Nat → Option (Int × Int)) : Prop where
  ex : ∃ (v1 v2 : Value) (q : Nat → Q), w.heap[P]? = some (.cells #[v1, v2] 35 (0, 0)) ∧
    w.ownsRow base 5 1 v1 (Mk.names f).length ((Mk.names f).map enc8) ∧
    w.ownsRow base 37 2 v2 (Mk.names f).length ((Mk.names f).flatMap fun k => rcell (q k)) ∧
    (∀ k r, f k = some r → (q k).1 = r.1 ∧ (q k).2 = r.2) ∧ (∀ b, v2.ownBlock = some b → Bare w b)
  ge : base ≤ P

/-- The blocks that the document's file may write to. -/
def Foot (w : World) (P b : Nat) : Prop := b = P ∨ ∃ v1 v2, w.heap[P]? = some (.cells #[v1, v2] 35 (0, 0)) ∧ v2.ownBlock = some b

theorem row_shape {w : World} {base : Nat} {e : TypeId} {size n : Nat} {v : Value} {xs : List Value} (h : w.ownsRow base e size v n xs) :
    ∃ A c, v = .slice A n c ∧ Ins.At w A xs ∧ n ≤ c ∧ c ≤ maxLen ∧ (A = none → c = 0) ∧ xs.length = n * size ∧ (0 < n → ∃ g, A = some ⟨g, 0, none⟩) := by
  have hl := h.1
  rcases h.2 with ⟨rfl, rfl⟩ | ⟨g, cap, cur, rfl, hb, hh, h1, h2, h3, h4⟩
  · exact ⟨none, 0, rfl, .inl (List.length_eq_zero_iff.1 (by omega)), Nat.le_refl _, Nat.zero_le _, fun _ => rfl, hl, fun h => by omega⟩
  · refine ⟨_, _, rfl, .inr ⟨g, 0, rfl, heap_lt hh, fun j u hj => ?_⟩, h1, h2, (by intro e; cases e), hl, fun _ => ⟨g, rfl⟩⟩
    have := h.cellAt j (by have h9 := (List.getElem?_eq_some_iff.1 hj).1; omega)
    rw [Nat.zero_add, this]; exact hj
theorem row_block {w : World} {base : Nat} {e : TypeId} {size n : Nat} {v : Value} {xs : List Value} (h : w.ownsRow base e size v n xs) {b : Nat} (hb : v.ownBlock = some b) : ∃ cur, w.heap[b]? = some (.cells cur e (0, 0)) := by
  rcases h.2 with ⟨rfl, _⟩ | ⟨g, cap, cur, rfl, _, hh, _⟩
  · cases hb
  · cases hb; exact ⟨cur, hh⟩
theorem row_only {S : Nat → Prop} {w w' : World} {base : Nat} {e : TypeId} {size n : Nat} {v : Value} {xs : List Value} (h : w.ownsRow base e size v n xs) (ho : Only S w w') (hS : ∀ b, v.ownBlock = some b → ¬ S b) : w'.ownsRow base e size v n xs := by
  refine ⟨h.1, ?_⟩
  rcases h.2 with h0 | ⟨g, cap, cur, rfl, hb, hh, h1⟩
  · exact .inl h0
  · exact .inr ⟨g, cap, cur, rfl, hb, (ho.block g (heap_lt hh) (hS g rfl)).trans hh, h1⟩
theorem bare_row {w : World} {b : Nat} {cur : Array Value} {e : TypeId} (h : w.heap[b]? = some (.cells cur e (0, 0))) (hc : ∀ (o : Nat) s, cur[o]? ≠ some (.string s)) : Bare w b := bare_cells h hc

section
variable {w w' : World} {base P : Nat} {f : Nat → Option (Int × Int)}
theorem RAt.only {S : Nat → Prop} (h : RAt w base P f) (ho : Only S w w') (hS : ∀ b, b < w.heap.size → S b → Bare w b) (hcell : ∀ b cur (e : TypeId), w.heap[b]? = some (.cells cur e (0, 0)) → (e = 35 ∨ e = 5 ∨ e = 37) → (b = P ∨ base ≤ b) → ¬ S b) : RAt w' base P f := by
  obtain ⟨v1, v2, q, hbox, hn, hr, hq, hbr⟩ := h.ex
  refine ⟨⟨v1, v2, q, (ho.block P (heap_lt hbox) (hcell _ _ _ hbox (.inl rfl) (.inl rfl))).trans hbox, row_only hn ho (fun b hb => ?_), row_only hr ho (fun b hb => ?_), fun k r hk => ⟨(hq k r hk).1, (hq k r hk).2⟩, fun b hb => trivial⟩, h.ge⟩
  · obtain ⟨cur, hc⟩ := row_block hn hb
    exact hcell _ _ _ hc (.inr (.inl rfl)) (.inr (hn.lt b hb).1)
  · obtain ⟨cur, hc⟩ := row_block hr hb
    exact hcell _ _ _ hc (.inr (.inr rfl)) (.inr (hr.lt b hb).1)
theorem RAt.no (h : RAt w base P f) (ho : Only No w w') : RAt w' base P f := h.only ho (fun _ _ h => h.elim) (fun _ _ _ _ _ _ h => h)
theorem RAt.lt (h : RAt w base P f) : P < w.heap.size := by obtain ⟨v1, v2, q, hbox, _⟩ := h.ex; exact heap_lt hbox
theorem Foot.lt (h : RAt w base P f) {b : Nat} (hb : Foot w P b) : b < w.heap.size ∧ (b = P ∨ base ≤ b) := by
  obtain ⟨v1, v2, q, hbox, hn, hr, hq, hbr⟩ := h.ex
  rcases hb with rfl | ⟨u1, u2, hu, hb⟩
  · exact ⟨heap_lt hbox, .inl rfl⟩
  · rw [hbox] at hu
    cases hu
    exact ⟨(hr.lt b hb).2, .inr (hr.lt b hb).1⟩
theorem Foot.bare (h : RAt w base P f) {b : Nat} (hb : Foot w P b) : Bare w b ∧ ∃ cur e, w.heap[b]? = some (.cells cur e (0, 0)) ∧ (e = 35 ∨ e = 37) := by
  obtain ⟨v1, v2, q, hbox, hn, hr, hq, hbr⟩ := h.ex
  rcases hb with rfl | ⟨u1, u2, hu, hb⟩
  · refine ⟨bare_cells hbox (fun o s => ?_), _, _, hbox, .inl rfl⟩
    obtain ⟨A, c, rfl, _⟩ := row_shape hn
    obtain ⟨A', c', rfl, _⟩ := row_shape hr
    rcases o with _ | _ | o <;> simp
  · rw [hbox] at hu
    cases hu
    obtain ⟨cur, hc⟩ := row_block hr hb
    exact ⟨hbr b hb, _, _, hc, .inr rfl⟩
theorem foot_no (ho : Only No w w') (h : RAt w base P f) {b : Nat} (hb : Foot w' P b) : Foot w P b := by
  obtain ⟨v1, v2, q, hbox, _⟩ := h.ex
  rcases hb with rfl | ⟨u1, u2, hu, hb⟩
  · exact .inl rfl
  · rw [ho.block P (heap_lt hbox) (fun h => h)] at hu
    exact .inr ⟨u1, u2, hu, hb⟩
end

/-! ### names -/
theorem nm_lt {p : Nat → Bool} {k j : Nat} (hk : k < 256) (h : j < (Ins.lo p k).length) : ∃ x, (Ins.nms p)[j]? = some x ∧ x < k := by
  refine ⟨(Ins.lo p k)[j], ?_, Ins.mem_lo (List.getElem_mem h)⟩
  rw [Ins.nms_split p hk, List.getElem?_append_left h, List.getElem?_eq_getElem h]
theorem nm_at {p : Nat → Bool} {k : Nat} (hk : k < 256) (h : p k = true) : (Ins.nms p)[(Ins.lo p k).length]? = some k := by
  rw [Ins.nms_split p hk, List.getElem?_append_right (Nat.le_refl _), Nat.sub_self, if_pos h]; rfl
theorem nm_gt {p : Nat → Bool} {k x : Nat} (hk : k < 256) (h : p k = false) (hx : (Ins.nms p)[(Ins.lo p k).length]? = some x) : k < x := by
  rw [Ins.nms_split p hk, List.getElem?_append_right (Nat.le_refl _), Nat.sub_self, if_neg (by rw [h]; exact Bool.false_ne_true), List.nil_append] at hx
  exact Ins.mem_hi (List.mem_of_getElem? hx)
theorem nm_ne {p : Nat → Bool} {k j x : Nat} (h : p k = false) (hx : (Ins.nms p)[j]? = some x) : x ≠ k := by
  rintro rfl
  have := (List.mem_filter.1 (List.mem_of_getElem? hx)).2
  rw [h] at this; cases this
theorem nm_len {p : Nat → Bool} {k : Nat} (hk : k < 256) : (Ins.nms p).length = (Ins.lo p k).length + ((if p k then [k] else []).length + (Ins.hi p k).length) := by
  rw [Ins.nms_split p hk]; simp

def updM (f : Nat → Option (Int × Int)) (k : Nat) (r : Option (Int × Int)) : Nat → Option (Int × Int) := fun j => if j = k then r else f j
/-- The cells of a row of places. -/
theorem flat_at (N : List Nat) (q : Nat → Q) {j x : Nat} (h : N[j]? = some x) : (N.flatMap fun k => rcell (q k))[j * 2]? = some (.int .i64 (q x).1) ∧ (N.flatMap fun k => rcell (q k))[j * 2 + 1]? = some (.int .i64 (q x).2) := by
  induction N generalizing j with
  | nil => cases h
  | cons a l ih =>
    rw [List.flatMap_cons]
    rcases j with _ | j
    · simp at h
      subst h
      exact ⟨rfl, rfl⟩
    · simp at h
      have := ih h
      have e1 : (j + 1) * 2 = 2 + j * 2 := by omega
      rw [e1]
      constructor
      · rw [List.getElem?_append_right (by simp [rcell])]; simpa [rcell] using this.1
      · rw [List.getElem?_append_right (by simp [rcell]; omega), show 2 + j * 2 + 1 - (rcell (q a)).length = j * 2 + 1 by simp [rcell]; omega]; exact this.2

set_option maxHeartbeats 2000000 in
set_option maxRecDepth 100000 in
theorem mget_calls (base P : Nat) (f : Nat → Option (Int × Int)) (K : Nat) (w : World) (h : RAt w base P f) (hkl : K < 256) :
    Calls Try.prog 17 #[.pointer (some ⟨P, 0, none⟩), .int .u8 (K : Int)] w fun e w' => e = .returned (.tuple #[posV (posOr (f K)), .bool (f K).isSome]) ∧ Only No w w' := by
  obtain ⟨v1, v2, q, hbox, hn, hr, hq, hbr⟩ := h.ex
  obtain ⟨A1, c1, rfl, _, hc1, hm1, _, _, hs1⟩ := row_shape hn
  obtain ⟨A2, c2, rfl, _, hc2, hm2, _, _, hs2⟩ := row_shape hr
  unfold maxLen at hm1 hm2
  have hN256 : (Mk.names f).length ≤ 256 := Ins.nms_length _
  obtain ⟨W, hW⟩ : ∃ W, w.alloc (.cells #[.int .i64 0, .int .i64 0] 37) = W := ⟨_, rfl⟩
  have hO : Only No w W := by rw [← hW]; exact (Only.refl _ w).alloc _
  have hf0 : W.heap[w.heap.size]? = some (.cells #[.int .i64 0, .int .i64 0] 37 (0, 0)) := by rw [← hW]; exact alloc_new _ _
  have f0 : W.cell? ⟨w.heap.size, 0, none⟩ = some (.int .i64 0) := by simp [World.cell?, hf0]
  have f1 : W.cell? ⟨w.heap.size, 1, none⟩ = some (.int .i64 0) := by simp [World.cell?, hf0]
  have f2 : W.frozen? ⟨w.heap.size, 0, none⟩ = false := by simp [World.frozen?, hf0]
  have f3 : W.frozen? ⟨w.heap.size, 1, none⟩ = false := by simp [World.frozen?, hf0]
  have hbW : W.heap[P]? = some (.cells #[.slice A1 (Mk.names f).length c1, .slice A2 (Mk.names f).length c2] 35 (0, 0)) := (hO.block P (heap_lt hbox) (fun h => h)).trans hbox
  have p0 : W.cell? ⟨P, 0, none⟩ = some (.slice A1 (Mk.names f).length c1) := by simp [World.cell?, hbW]
  have p1 : W.cell? ⟨P, 1, none⟩ = some (.slice A2 (Mk.names f).length c2) := by simp [World.cell?, hbW]
  have hnW := row_only hn hO (fun _ _ h => h)
  have hrW := row_only hr hO (fun _ _ h => h)
  obtain ⟨T, hT⟩ : ∃ T, T = if has f K then (Ins.lo (has f) K).length else (Mk.names f).length := ⟨_, rfl⟩
  obtain ⟨N, hN⟩ : ∃ N, (Mk.names f).length = N := ⟨_, rfl⟩
  have hlen := nm_len (p := has f) hkl
  rw [← names_nms, hN] at hlen
  have hTN : T ≤ N := by rw [hT]; split <;> omega
  have hbef : ∀ j, j < T → ∃ x g, A1 = some ⟨g, 0, none⟩ ∧ W.cell? ⟨g, j, none⟩ = some (.int .u8 ((x : Nat) : Int)) ∧ x ≠ K := by
    intro j hj
    have hjN : j < (Mk.names f).length := by omega
    obtain ⟨g, hg⟩ := hs1 (by omega)
    subst hg
    have hx : (Mk.names f)[j]? = some (Mk.names f)[j] := List.getElem?_eq_getElem hjN
    have hc := hnW.cellAt j (by omega)
    rw [List.getElem?_map, hx] at hc
    refine ⟨_, g, rfl, hc, ?_⟩
    cases hh : has f K with
    | true =>
      rw [hh] at hT
      simp only [if_true] at hT
      obtain ⟨y, hy, hyk⟩ := nm_lt (p := has f) hkl (by omega : j < (Ins.lo (has f) K).length)
      rw [← names_nms, hx] at hy
      cases hy
      omega
    | false => exact nm_ne hh hx
  have hyes : has f K = true → T < N ∧ ∃ g g2, A1 = some ⟨g, 0, none⟩ ∧ A2 = some ⟨g2, 0, none⟩ ∧ W.cell? ⟨g, T, none⟩ = some (.int .u8 ((K : Nat) : Int)) ∧ W.cell? ⟨g2, T * 2, none⟩ = some (.int .i64 (q K).1) ∧ W.cell? ⟨g2, T * 2 + 1, none⟩ = some (.int .i64 (q K).2) := by
    intro hh
    have hx := nm_at hkl hh
    rw [hh] at hT hlen
    simp only [if_true] at hT hlen
    rw [← names_nms, ← hT] at hx
    simp only [List.length_singleton] at hlen
    obtain ⟨g, hg⟩ := hs1 (by omega)
    obtain ⟨g2, hg2⟩ := hs2 (by omega)
    subst hg
    subst hg2
    have hc := hnW.cellAt T (by omega)
    rw [List.getElem?_map, hx] at hc
    obtain ⟨h3, h4⟩ := flat_at (Mk.names f) q hx
    have hc3 := hrW.cellAt (T * 2) (by omega)
    have hc4 := hrW.cellAt (T * 2 + 1) (by omega)
    rw [h3] at hc3
    rw [h4] at hc4
    exact ⟨by omega, g, g2, rfl, rfl, hc, hc3, hc4⟩
  have hno : has f K = false → T = N := by
    intro hh
    rw [hT, hh]; exact hN
  have hval : has f K = true → (q K).1 = (posOr (f K)).1 ∧ (q K).2 = (posOr (f K)).2 := by
    intro hh
    unfold has at hh
    cases e : f K with
    | none => rw [e] at hh; cases hh
    | some r => exact hq K r e
  have hnone : has f K = false → posOr (f K) = (0, 0) := by
    intro hh
    unfold has at hh
    cases e : f K with
    | none => rfl
    | some r => rw [e] at hh; cases hh
  rw [hN] at hc1 hc2 p0 p1 hN256
  have HB := Lib.hid hbef
  have HY := Lib.hid hyes
  have HNo := Lib.hid hno
  have HV := Lib.hid hval
  have HNn := Lib.hid hnone
  have hO2 : ∀ a b, Only No w ((W.setCell ⟨w.heap.size, 0, none⟩ a).setCell ⟨w.heap.size, 1, none⟩ b) := fun a b => (hO.setCell (p := ⟨w.heap.size, 0, none⟩) (.inl (Nat.le_refl _)) a).setCell (p := ⟨w.heap.size, 1, none⟩) (.inl (Nat.le_refl _)) b
  have HO := Lib.hid hO2
  have eh : (f K).isSome = has f K := rfl
  rw [eh]
  unfold posV
  generalize hb : has f K = bb at *
  generalize hrr : posOr (f K) = r at *
  clear hn hr hq hbr hbox hs1 hs2 hbW hnW hrW hT hN hlen hbef hyes hno hval hnone hO hO2 eh hb hrr h
  have hsc : ∀ a b, ((W.setCell ⟨w.heap.size, 0, none⟩ a).setCell ⟨w.heap.size, 1, none⟩ b).cell? ⟨w.heap.size, 0, none⟩ = some a ∧ ((W.setCell ⟨w.heap.size, 0, none⟩ a).setCell ⟨w.heap.size, 1, none⟩ b).cell? ⟨w.heap.size, 1, none⟩ = some b := by
    intro a b
    have e1 : (W.setCell ⟨w.heap.size, 0, none⟩ a).heap[w.heap.size]? = some (.cells #[a, .int .i64 0] 37 (0, 0)) := by simp [World.setCell, Array.getElem?_modify, hf0]
    have e2 : ((W.setCell ⟨w.heap.size, 0, none⟩ a).setCell ⟨w.heap.size, 1, none⟩ b).heap[w.heap.size]? = some (.cells #[a, b] 37 (0, 0)) := by
      generalize W.setCell ⟨w.heap.size, 0, none⟩ a = w1 at *
      simp [World.setCell, Array.getElem?_modify, e1]
    constructor <;> simp [World.cell?, e2]
  have HSC := Lib.hid hsc
  clear hsc hf0
  go_enter Try.func17, Try.ntmps17
  go_wp2_with fail
  go_loop [6] (fun i => ∃ j : Nat, i = .int .i64 (j : Int) ∧ j ≤ T) (fun i => N - (intOf i).toNat)
  case atStart => exact ⟨0, rfl, by omega⟩
  case round =>
    obtain ⟨j, rfl, hj⟩ := hrel
    by_cases hjT : j < T
    · obtain ⟨x, g, rfl, hc, hx⟩ := HB.out j hjT
      have g1 : (((x : Nat) : Int) == (K : Int)) = false := by rw [beq_eq_false_iff_ne]; omega
      have g2 : j < N := by omega
      go_wp2_with fail
      go_round
      case rel => exact ⟨j + 1, by first | rfl | (simp; done) | (simp; omega), by omega⟩
      case measure => first | (simp [intOf]; done) | (simp [intOf]; omega)
    · obtain rfl : j = T := by omega
      cases bb with
      | true =>
        obtain ⟨hTN2, g, g2, rfl, rfl, hc, hc3, hc4⟩ := HY.out rfl
        have g1 : (((K : Nat) : Int) == (K : Int)) = true := beq_iff_eq.2 (by omega)
        have HE := Lib.hid (HV.out rfl)
        go_wp2_with fail
        obtain ⟨e1, e2⟩ := HE.out
        obtain ⟨q2, q3⟩ := HSC.out (.int .i64 (q K).1) (.int .i64 (q K).2)
        rw [← e1, ← e2]
        exact bodyPost_ret (v := .tuple #[.agg #[.int .i64 (q K).1, .int .i64 (q K).2], .bool true]) (by simp [results, Try.results17, go_sem, q2, q3]) rfl ⟨rfl, HO.out _ _⟩
      | false =>
        obtain rfl := HNo.out rfl
        have HE := Lib.hid (HNn.out rfl)
        go_wp2_with fail
        obtain ⟨q2, q3⟩ := HSC.out (.int .i64 0) (.int .i64 0)
        rw [HE.out]
        exact bodyPost_ret (v := .tuple #[.agg #[.int .i64 0, .int .i64 0], .bool false]) (by simp [results, Try.results17, go_sem, q2, q3]) rfl ⟨rfl, HO.out _ _⟩
end Go.Proofs.Ytlmghmndojfjpaa.Mf
