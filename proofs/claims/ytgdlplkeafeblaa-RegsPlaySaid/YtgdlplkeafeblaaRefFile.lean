/- The document's registers: set, Get, walked. -/
import Derived.Test.YtgdlplkeafeblaaRegsNames
import Derived.Test.YtgdlplkeafeblaaIns
import Derived.BigRegion
import Derived.Deep.RegionHeld3
namespace Go.Proofs.Ytgdlplkeafeblaa.Rf
open Go.RowKit Go.Proofs.Ytgdlplkeafeblaa.MapRaw Go.Proofs.Ytgdlplkeafeblaa.Frm Go.Proofs.Ytgdlplkeafeblaa.Lns Go.Proofs.Ytgdlplkeafeblaa.Rg Go.Proofs.Ytgdlplkeafeblaa.Keys
set_option linter.unusedVariables false
set_option linter.unusedSimpArgs false
attribute [local go_sem ↓] Go.wp_at_zero Go.wp_at_succ

theorem infoReg : (Try.prog.info? 24).map (fun i => (i.zero, i.size, i.bytes)) = some (some (.agg #[.int .i64 0, .slice none 0 0]), 2, 32) := by kernel_rfl

/-- A register as it lies in a row: its kind, its slice. -/
abbrev Q := Int × Option Addr × Nat × Nat
def rcell (x : Q) : List Value := [.int .i64 x.1, .slice x.2.1 x.2.2.1 x.2.2.2]
def has (f : Nat → Option Reg) (k : Nat) : Bool := (f k).isSome
theorem names_nms (f : Nat → Option Reg) : Rg.names f = Ins.nms (has f) := rfl

/-- At block P lies the document's file, that holds f; its rows are the call's own. -/
structure RAt (w : World) (base P : Nat) (f : Nat → Option Reg) : Prop where
  ex : ∃ (v1 v2 : Value) (q : Nat → Q), w.heap[P]? = some (.cells #[v1, v2] 45 (0, 0)) ∧
    w.ownsRow base 5 1 v1 (Rg.names f).length ((Rg.names f).map enc8) ∧
    w.ownsRow base 24 2 v2 (Rg.names f).length ((Rg.names f).flatMap fun k => rcell (q k)) ∧
    (∀ k r, f k = some r → (q k).1 = r.1 ∧ Lines w (q k).2.1 (q k).2.2.1 (q k).2.2.2 r.2) ∧ (∀ b, v2.ownBlock = some b → Bare w b)
  ge : base ≤ P

/-- The blocks that the document's file may write to. -/
def Foot (w : World) (P b : Nat) : Prop := b = P ∨ ∃ v1 v2, w.heap[P]? = some (.cells #[v1, v2] 45 (0, 0)) ∧ v2.ownBlock = some b

theorem row_shape {w : World} {base : Nat} {e : TypeId} {size n : Nat} {v : Value} {xs : List Value} (h : w.ownsRow base e size v n xs) :
    ∃ A c, v = .slice A n c ∧ Ins.At w A xs ∧ n ≤ c ∧ c ≤ maxLen ∧ (A = none → c = 0) ∧ xs.length = n * size ∧ (0 < n → ∃ g, A = some ⟨g, 0, none⟩) := by
  have hl := h.1
  rcases h.2 with ⟨rfl, rfl⟩ | ⟨g, cap, cur, rfl, hb, hh, h1, h2, h3, h4⟩
  · exact ⟨none, 0, rfl, .inl (List.length_eq_zero_iff.1 (by omega)), Nat.le_refl _, Nat.zero_le _, fun _ => rfl, hl, fun h => by omega⟩
  · refine ⟨_, _, rfl, .inr ⟨g, 0, rfl, heap_lt hh, fun j u hj => ?_⟩, h1, h2, (by intro e; cases e), hl, fun _ => ⟨g, rfl⟩⟩
    have := h.cellAt j (by have h9 := (List.getElem?_eq_some_iff.1 hj).1; omega)
    rw [Nat.zero_add, this]; exact hj
theorem row_block {w : World} {base : Nat} {e : TypeId} {size n : Nat} {v : Value} {xs : List Value} (h : w.ownsRow base e size v n xs) {b : Nat} (hb : v.ownBlock = some b) : ∃ cur, w.heap[b]? = some (.cells cur e (0, 0)) := by
  rcases h.2 with ⟨rfl, _⟩ | ⟨g, cap, cur, rfl, _, hh, _⟩
  · cases hb
  · cases hb; exact ⟨cur, hh⟩
theorem row_only {S : Nat → Prop} {w w' : World} {base : Nat} {e : TypeId} {size n : Nat} {v : Value} {xs : List Value} (h : w.ownsRow base e size v n xs) (ho : Only S w w') (hS : ∀ b, v.ownBlock = some b → ¬ S b) : w'.ownsRow base e size v n xs := by
  refine ⟨h.1, ?_⟩
  rcases h.2 with h0 | ⟨g, cap, cur, rfl, hb, hh, h1⟩
  · exact .inl h0
  · exact .inr ⟨g, cap, cur, rfl, hb, (ho.block g (heap_lt hh) (hS g rfl)).trans hh, h1⟩
theorem bare_row {w : World} {b : Nat} {cur : Array Value} {e : TypeId} (h : w.heap[b]? = some (.cells cur e (0, 0))) (hc : ∀ (o : Nat) s, cur[o]? ≠ some (.string s)) : Bare w b := bare_cells h hc

section
variable {w w' : World} {base P : Nat} {f : Nat → Option Reg}
theorem RAt.only {S : Nat → Prop} (h : RAt w base P f) (ho : Only S w w') (hS : ∀ b, b < w.heap.size → S b → Bare w b) (hcell : ∀ b cur (e : TypeId), w.heap[b]? = some (.cells cur e (0, 0)) → (e = 45 ∨ e = 5 ∨ e = 24) → (b = P ∨ base ≤ b) → ¬ S b) : RAt w' base P f := by
  obtain ⟨v1, v2, q, hbox, hn, hr, hq, hbr⟩ := h.ex
  refine ⟨⟨v1, v2, q, (ho.block P (heap_lt hbox) (hcell _ _ _ hbox (.inl rfl) (.inl rfl))).trans hbox, row_only hn ho (fun b hb => ?_), row_only hr ho (fun b hb => ?_), fun k r hk => ⟨(hq k r hk).1, (hq k r hk).2.only ho hS⟩, fun b hb o s => ?_⟩, h.ge⟩
  · obtain ⟨cur, hc⟩ := row_block hn hb
    exact hcell _ _ _ hc (.inr (.inl rfl)) (.inr (hn.lt b hb).1)
  · obtain ⟨cur, hc⟩ := row_block hr hb
    exact hcell _ _ _ hc (.inr (.inr rfl)) (.inr (hr.lt b hb).1)
  · obtain ⟨cur, hc⟩ := row_block hr hb
    rw [cell_block (ho.block b (heap_lt hc) (hcell _ _ _ hc (.inr (.inr rfl)) (.inr (hr.lt b hb).1))) o]
    exact hbr b hb o s
theorem RAt.no (h : RAt w base P f) (ho : Only No w w') : RAt w' base P f := h.only ho (fun _ _ h => h.elim) (fun _ _ _ _ _ _ h => h)
theorem RAt.lt (h : RAt w base P f) : P < w.heap.size := by obtain ⟨v1, v2, q, hbox, _⟩ := h.ex; exact heap_lt hbox
theorem Foot.lt (h : RAt w base P f) {b : Nat} (hb : Foot w P b) : b < w.heap.size ∧ (b = P ∨ base ≤ b) := by
  obtain ⟨v1, v2, q, hbox, hn, hr, hq, hbr⟩ := h.ex
  rcases hb with rfl | ⟨u1, u2, hu, hb⟩
  · exact ⟨heap_lt hbox, .inl rfl⟩
  · rw [hbox] at hu
    cases hu
    exact ⟨(hr.lt b hb).2, .inr (hr.lt b hb).1⟩
theorem Foot.bare (h : RAt w base P f) {b : Nat} (hb : Foot w P b) : Bare w b ∧ ∃ cur e, w.heap[b]? = some (.cells cur e (0, 0)) ∧ (e = 45 ∨ e = 24) := by
  obtain ⟨v1, v2, q, hbox, hn, hr, hq, hbr⟩ := h.ex
  rcases hb with rfl | ⟨u1, u2, hu, hb⟩
  · refine ⟨bare_cells hbox (fun o s => ?_), _, _, hbox, .inl rfl⟩
    obtain ⟨A, c, rfl, _⟩ := row_shape hn
    obtain ⟨A', c', rfl, _⟩ := row_shape hr
    rcases o with _ | _ | o <;> simp
  · rw [hbox] at hu
    cases hu
    obtain ⟨cur, hc⟩ := row_block hr hb
    exact ⟨hbr b hb, _, _, hc, .inr rfl⟩
theorem foot_no (ho : Only No w w') (h : RAt w base P f) {b : Nat} (hb : Foot w' P b) : Foot w P b := by
  obtain ⟨v1, v2, q, hbox, _⟩ := h.ex
  rcases hb with rfl | ⟨u1, u2, hu, hb⟩
  · exact .inl rfl
  · rw [ho.block P (heap_lt hbox) (fun h => h)] at hu
    exact .inr ⟨u1, u2, hu, hb⟩
end

/-! ### names -/
theorem nm_lt {p : Nat → Bool} {k j : Nat} (hk : k < 256) (h : j < (Ins.lo p k).length) : ∃ x, (Ins.nms p)[j]? = some x ∧ x < k := by
  refine ⟨(Ins.lo p k)[j], ?_, Ins.mem_lo (List.getElem_mem h)⟩
  rw [Ins.nms_split p hk, List.getElem?_append_left h, List.getElem?_eq_getElem h]
theorem nm_at {p : Nat → Bool} {k : Nat} (hk : k < 256) (h : p k = true) : (Ins.nms p)[(Ins.lo p k).length]? = some k := by
  rw [Ins.nms_split p hk, List.getElem?_append_right (Nat.le_refl _), Nat.sub_self, if_pos h]; rfl
theorem nm_gt {p : Nat → Bool} {k x : Nat} (hk : k < 256) (h : p k = false) (hx : (Ins.nms p)[(Ins.lo p k).length]? = some x) : k < x := by
  rw [Ins.nms_split p hk, List.getElem?_append_right (Nat.le_refl _), Nat.sub_self, if_neg (by rw [h]; exact Bool.false_ne_true), List.nil_append] at hx
  exact Ins.mem_hi (List.mem_of_getElem? hx)
theorem nm_ne {p : Nat → Bool} {k j x : Nat} (h : p k = false) (hx : (Ins.nms p)[j]? = some x) : x ≠ k := by
  rintro rfl
  have := (List.mem_filter.1 (List.mem_of_getElem? hx)).2
  rw [h] at this; cases this
theorem nm_len {p : Nat → Bool} {k : Nat} (hk : k < 256) : (Ins.nms p).length = (Ins.lo p k).length + ((if p k then [k] else []).length + (Ins.hi p k).length) := by
  rw [Ins.nms_split p hk]; simp

/-- The cells of a row of registers. -/
theorem flat_at (N : List Nat) (q : Nat → Q) {j x : Nat} (h : N[j]? = some x) : (N.flatMap fun k => rcell (q k))[j * 2]? = some (.int .i64 (q x).1) ∧ (N.flatMap fun k => rcell (q k))[j * 2 + 1]? = some (.slice (q x).2.1 (q x).2.2.1 (q x).2.2.2) := by
  induction N generalizing j with
  | nil => cases h
  | cons a l ih =>
    rw [List.flatMap_cons]
    rcases j with _ | j
    · simp at h
      subst h
      exact ⟨rfl, rfl⟩
    · simp at h
      have := ih h
      have e1 : (j + 1) * 2 = 2 + j * 2 := by omega
      rw [e1]
      constructor
      · rw [List.getElem?_append_right (by simp [rcell])]; simpa [rcell] using this.1
      · rw [List.getElem?_append_right (by simp [rcell]; omega), show 2 + j * 2 + 1 - (rcell (q a)).length = j * 2 + 1 by simp [rcell]; omega]; exact this.2

set_option maxHeartbeats 2000000 in
set_option maxRecDepth 100000 in
theorem rget_calls (base P : Nat) (f : Nat → Option Reg) (n : Nat) (w : World) (h : RAt w base P f) (hlt : n < 256) :
    Calls Try.prog 27 #[.pointer (some ⟨P, 0, none⟩), .int .u8 (n : Int)] w fun e w' => ∃ v, e = .returned (.tuple #[v, .bool (f (Rg.keyOf n)).isSome]) ∧ IsReg w' v (regOr (f (Rg.keyOf n))) ∧ Only No w w' := by
  obtain ⟨v1, v2, q, hbox, hn, hr, hq, hbr⟩ := h.ex
  obtain ⟨A1, c1, rfl, _, hc1, hm1, _, _, hs1⟩ := row_shape hn
  obtain ⟨A2, c2, rfl, _, hc2, hm2, _, _, hs2⟩ := row_shape hr
  unfold maxLen at hm1 hm2
  have hN256 : (Rg.names f).length ≤ 256 := Ins.nms_length _
  have hkl := keyOf_lt hlt
  have hcase : (n = 0 ∧ Rg.keyOf n = 34) ∨ ((n ≠ 0 ∧ 65 ≤ n ∧ n ≤ 90) ∧ Rg.keyOf n = n + 32) ∨ ((n ≠ 0 ∧ n < 65) ∧ Rg.keyOf n = n) ∨ ((n ≠ 0 ∧ 65 ≤ n ∧ 90 < n) ∧ Rg.keyOf n = n) := by
    unfold Rg.keyOf
    by_cases h0 : n = 0
    · simp [h0]
    · by_cases h1 : 65 ≤ n
      · by_cases h2 : n ≤ 90
        · simp [h0, h1, h2]
        · simp [h0, h1, h2]; omega
      · simp [h0, h1]; omega
  obtain ⟨K, hK⟩ : ∃ K, Rg.keyOf n = K := ⟨_, rfl⟩
  rw [hK] at hcase hkl ⊢
  clear hK
  obtain ⟨W, hW⟩ : ∃ W, w.alloc (.cells #[.int .i64 0, .slice none 0 0] 24) = W := ⟨_, rfl⟩
  have hO : Only No w W := by rw [← hW]; exact (Only.refl _ w).alloc _
  have hf0 : W.heap[w.heap.size]? = some (.cells #[.int .i64 0, .slice none 0 0] 24 (0, 0)) := by rw [← hW]; exact alloc_new _ _
  obtain ⟨f0, f1, f2, f3⟩ := reg_cells hf0
  have hbW : W.heap[P]? = some (.cells #[.slice A1 (Rg.names f).length c1, .slice A2 (Rg.names f).length c2] 45 (0, 0)) := (hO.block P (heap_lt hbox) (fun h => h)).trans hbox
  have p0 : W.cell? ⟨P, 0, none⟩ = some (.slice A1 (Rg.names f).length c1) := by simp [World.cell?, hbW]
  have p1 : W.cell? ⟨P, 1, none⟩ = some (.slice A2 (Rg.names f).length c2) := by simp [World.cell?, hbW]
  have hnW := row_only hn hO (fun _ _ h => h)
  have hrW := row_only hr hO (fun _ _ h => h)
  obtain ⟨T, hT⟩ : ∃ T, T = if has f K then (Ins.lo (has f) K).length else (Rg.names f).length := ⟨_, rfl⟩
  obtain ⟨N, hN⟩ : ∃ N, (Rg.names f).length = N := ⟨_, rfl⟩
  have hlen := nm_len (p := has f) hkl
  rw [← names_nms, hN] at hlen
  have hTN : T ≤ N := by rw [hT]; split <;> omega
  have hbef : ∀ j, j < T → ∃ x g, A1 = some ⟨g, 0, none⟩ ∧ W.cell? ⟨g, j, none⟩ = some (.int .u8 ((x : Nat) : Int)) ∧ x ≠ K := by
    intro j hj
    have hjN : j < (Rg.names f).length := by omega
    obtain ⟨g, hg⟩ := hs1 (by omega)
    subst hg
    have hx : (Rg.names f)[j]? = some (Rg.names f)[j] := List.getElem?_eq_getElem hjN
    have hc := hnW.cellAt j (by omega)
    rw [List.getElem?_map, hx] at hc
    refine ⟨_, g, rfl, hc, ?_⟩
    cases hh : has f K with
    | true =>
      rw [hh] at hT
      simp only [if_true] at hT
      obtain ⟨y, hy, hyk⟩ := nm_lt (p := has f) hkl (by omega : j < (Ins.lo (has f) K).length)
      rw [← names_nms, hx] at hy
      cases hy
      omega
    | false => exact nm_ne hh hx
  have hyes : has f K = true → T < N ∧ ∃ g g2, A1 = some ⟨g, 0, none⟩ ∧ A2 = some ⟨g2, 0, none⟩ ∧ W.cell? ⟨g, T, none⟩ = some (.int .u8 ((K : Nat) : Int)) ∧ W.cell? ⟨g2, T * 2, none⟩ = some (.int .i64 (q K).1) ∧ W.cell? ⟨g2, T * 2 + 1, none⟩ = some (.slice (q K).2.1 (q K).2.2.1 (q K).2.2.2) := by
    intro hh
    have hx := nm_at hkl hh
    rw [hh] at hT hlen
    simp only [if_true] at hT hlen
    rw [← names_nms, ← hT] at hx
    simp only [List.length_singleton] at hlen
    obtain ⟨g, hg⟩ := hs1 (by omega)
    obtain ⟨g2, hg2⟩ := hs2 (by omega)
    subst hg
    subst hg2
    have hc := hnW.cellAt T (by omega)
    rw [List.getElem?_map, hx] at hc
    obtain ⟨h3, h4⟩ := flat_at (Rg.names f) q hx
    have hc3 := hrW.cellAt (T * 2) (by omega)
    have hc4 := hrW.cellAt (T * 2 + 1) (by omega)
    rw [h3] at hc3
    rw [h4] at hc4
    exact ⟨by omega, g, g2, rfl, rfl, hc, hc3, hc4⟩
  have hno : has f K = false → T = N := by
    intro hh
    rw [hT, hh]; exact hN
  have hval : has f K = true → (q K).1 = (regOr (f K)).1 ∧ Lines W (q K).2.1 (q K).2.2.1 (q K).2.2.2 (regOr (f K)).2 := by
    intro hh
    unfold has at hh
    cases e : f K with
    | none => rw [e] at hh; cases hh
    | some r =>
      have := hq K r e
      exact ⟨this.1, (this.2).only hO (fun _ _ h => h.elim)⟩
  have hnone : has f K = false → regOr (f K) = (0, []) := by
    intro hh
    unfold has at hh
    cases e : f K with
    | none => rfl
    | some r => rw [e] at hh; cases hh
  rw [hN] at hc1 hc2 p0 p1 hN256
  have HB := Lib.hid hbef
  have HY := Lib.hid hyes
  have HNo := Lib.hid hno
  have HV := Lib.hid hval
  have HNn := Lib.hid hnone
  have HO := Lib.hid hO
  have HF0 := Lib.hid hf0
  have eh : (f K).isSome = has f K := rfl
  rw [eh]
  generalize hb : has f K = bb at *
  generalize hrr : regOr (f K) = r at *
  clear hn hr hq hbr hbox hs1 hs2 hbW hnW hrW hT hN hlen hbef hyes hno hval hnone hO hf0 eh hb hrr h
  rcases hcase with ⟨rfl, e⟩ | ⟨⟨h0, h1, h2⟩, e⟩ | ⟨⟨h0, h1⟩, e⟩ | ⟨⟨h0, h1, h2⟩, e⟩
  · subst e
    go_enter Try.func27, Try.ntmps27
    go_wp2_with fail
    go_loop [6] (fun i => ∃ j : Nat, i = .int .i64 (j : Int) ∧ j ≤ T) (fun i => N - (intOf i).toNat)
    case atStart => exact ⟨0, rfl, by omega⟩
    case round =>
      obtain ⟨j, rfl, hj⟩ := hrel
      by_cases hjT : j < T
      · obtain ⟨x, g, rfl, hc, hx⟩ := HB.out j hjT
        have g1 : (((x : Nat) : Int) == (34 : Int)) = false := by rw [beq_eq_false_iff_ne]; omega
        have g2 : j < N := by omega
        go_wp2_with fail
        go_round
        case rel => exact ⟨j + 1, by first | rfl | (simp; done) | (simp; omega), by omega⟩
        case measure => first | (simp [intOf]; done) | (simp [intOf]; omega)
      · obtain rfl : j = T := by omega
        cases bb with
        | true =>
          obtain ⟨hTN2, g, g2, rfl, rfl, hc, hc3, hc4⟩ := HY.out rfl
          have g1 : (((34 : Nat) : Int) == (34 : Int)) = true := beq_iff_eq.2 (by omega)
          obtain ⟨e1, hl3⟩ := HV.out rfl
          have HL := Lib.hid hl3
          have HE1 := Lib.hid e1
          clear hl3 e1
          obtain ⟨q0, q1, q2, q3⟩ := store_reg (k := (q 34).1) HF0.out HL.out
          have hfin : Only No w _ := HO.out.trans q1 (fun j hj e => by omega)
          have HQ := Lib.hid (And.intro q0 (And.intro q2 (And.intro q3 hfin)))
          clear q0 q1 q2 q3 hfin
          go_wp2_with fail
          obtain ⟨q0, q2, q3, hfin⟩ := HQ.out
          exact bodyPost_ret (v := .tuple #[.agg #[.int .i64 (q 34).1, .slice (q 34).2.1 (q 34).2.2.1 (q 34).2.2.2], .bool true]) (by simp [results, Try.results27, go_sem, q2, q3]) rfl ⟨_, rfl, ⟨_, _, _, by rw [HE1.out], q0⟩, hfin⟩
        | false =>
          obtain rfl := HNo.out rfl
          have HR0 := Lib.hid (HNn.out rfl)
          obtain ⟨q0, q1, q2, q3⟩ := store_reg (k := 0) (A := none) (n := 0) (c := 0) (L := []) HF0.out ⟨rfl, Nat.le_refl _, Nat.zero_le _, fun _ => rfl, .inl rfl⟩
          have hfin : Only No w _ := HO.out.trans q1 (fun j hj e => by omega)
          have HQ := Lib.hid (And.intro q0 (And.intro q2 (And.intro q3 hfin)))
          clear q0 q1 q2 q3 hfin
          go_wp2_with fail
          obtain ⟨q0, q2, q3, hfin⟩ := HQ.out
          exact bodyPost_ret (v := .tuple #[.agg #[.int .i64 0, .slice none 0 0], .bool false]) (by simp [results, Try.results27, go_sem, q2, q3]) rfl ⟨_, rfl, by rw [HR0.out]; exact ⟨_, _, _, rfl, q0⟩, hfin⟩
  · subst e
    have z1 : ((n : Int) == 0) = false := by rw [beq_eq_false_iff_ne]; omega
    have z2 : (65 : Int) ≤ (n : Int) := by omega
    have z3 : (n : Int) ≤ 90 := by omega
    go_enter Try.func27, Try.ntmps27
    go_wp2_with fail
    go_loop [6] (fun i => ∃ j : Nat, i = .int .i64 (j : Int) ∧ j ≤ T) (fun i => N - (intOf i).toNat)
    case atStart => exact ⟨0, rfl, by omega⟩
    case round =>
      obtain ⟨j, rfl, hj⟩ := hrel
      by_cases hjT : j < T
      · obtain ⟨x, g, rfl, hc, hx⟩ := HB.out j hjT
        have g1 : (((x : Nat) : Int) == (n : Int) + 32) = false := by rw [beq_eq_false_iff_ne]; omega
        have g2 : j < N := by omega
        go_wp2_with fail
        go_round
        case rel => exact ⟨j + 1, by first | rfl | (simp; done) | (simp; omega), by omega⟩
        case measure => first | (simp [intOf]; done) | (simp [intOf]; omega)
      · obtain rfl : j = T := by omega
        cases bb with
        | true =>
          obtain ⟨hTN2, g, g2, rfl, rfl, hc, hc3, hc4⟩ := HY.out rfl
          have g1 : ((((n + 32) : Nat) : Int) == (n : Int) + 32) = true := beq_iff_eq.2 (by omega)
          obtain ⟨e1, hl3⟩ := HV.out rfl
          have HL := Lib.hid hl3
          have HE1 := Lib.hid e1
          clear hl3 e1
          obtain ⟨q0, q1, q2, q3⟩ := store_reg (k := (q (n + 32)).1) HF0.out HL.out
          have hfin : Only No w _ := HO.out.trans q1 (fun j hj e => by omega)
          have HQ := Lib.hid (And.intro q0 (And.intro q2 (And.intro q3 hfin)))
          clear q0 q1 q2 q3 hfin
          go_wp2_with fail
          obtain ⟨q0, q2, q3, hfin⟩ := HQ.out
          exact bodyPost_ret (v := .tuple #[.agg #[.int .i64 (q (n + 32)).1, .slice (q (n + 32)).2.1 (q (n + 32)).2.2.1 (q (n + 32)).2.2.2], .bool true]) (by simp [results, Try.results27, go_sem, q2, q3]) rfl ⟨_, rfl, ⟨_, _, _, by rw [HE1.out], q0⟩, hfin⟩
        | false =>
          obtain rfl := HNo.out rfl
          have HR0 := Lib.hid (HNn.out rfl)
          obtain ⟨q0, q1, q2, q3⟩ := store_reg (k := 0) (A := none) (n := 0) (c := 0) (L := []) HF0.out ⟨rfl, Nat.le_refl _, Nat.zero_le _, fun _ => rfl, .inl rfl⟩
          have hfin : Only No w _ := HO.out.trans q1 (fun j hj e => by omega)
          have HQ := Lib.hid (And.intro q0 (And.intro q2 (And.intro q3 hfin)))
          clear q0 q1 q2 q3 hfin
          go_wp2_with fail
          obtain ⟨q0, q2, q3, hfin⟩ := HQ.out
          exact bodyPost_ret (v := .tuple #[.agg #[.int .i64 0, .slice none 0 0], .bool false]) (by simp [results, Try.results27, go_sem, q2, q3]) rfl ⟨_, rfl, by rw [HR0.out]; exact ⟨_, _, _, rfl, q0⟩, hfin⟩
  · subst e
    have z1 : ((K : Int) == 0) = false := by rw [beq_eq_false_iff_ne]; omega
    have z2 : (K : Int) < 65 := by omega
    go_enter Try.func27, Try.ntmps27
    go_wp2_with fail
    go_loop [6] (fun i => ∃ j : Nat, i = .int .i64 (j : Int) ∧ j ≤ T) (fun i => N - (intOf i).toNat)
    case atStart => exact ⟨0, rfl, by omega⟩
    case round =>
      obtain ⟨j, rfl, hj⟩ := hrel
      by_cases hjT : j < T
      · obtain ⟨x, g, rfl, hc, hx⟩ := HB.out j hjT
        have g1 : (((x : Nat) : Int) == (K : Int)) = false := by rw [beq_eq_false_iff_ne]; omega
        have g2 : j < N := by omega
        go_wp2_with fail
        go_round
        case rel => exact ⟨j + 1, by first | rfl | (simp; done) | (simp; omega), by omega⟩
        case measure => first | (simp [intOf]; done) | (simp [intOf]; omega)
      · obtain rfl : j = T := by omega
        cases bb with
        | true =>
          obtain ⟨hTN2, g, g2, rfl, rfl, hc, hc3, hc4⟩ := HY.out rfl
          have g1 : (((K : Nat) : Int) == (K : Int)) = true := beq_iff_eq.2 (by omega)
          obtain ⟨e1, hl3⟩ := HV.out rfl
          have HL := Lib.hid hl3
          have HE1 := Lib.hid e1
          clear hl3 e1
          obtain ⟨q0, q1, q2, q3⟩ := store_reg (k := (q K).1) HF0.out HL.out
          have hfin : Only No w _ := HO.out.trans q1 (fun j hj e => by omega)
          have HQ := Lib.hid (And.intro q0 (And.intro q2 (And.intro q3 hfin)))
          clear q0 q1 q2 q3 hfin
          go_wp2_with fail
          obtain ⟨q0, q2, q3, hfin⟩ := HQ.out
          exact bodyPost_ret (v := .tuple #[.agg #[.int .i64 (q K).1, .slice (q K).2.1 (q K).2.2.1 (q K).2.2.2], .bool true]) (by simp [results, Try.results27, go_sem, q2, q3]) rfl ⟨_, rfl, ⟨_, _, _, by rw [HE1.out], q0⟩, hfin⟩
        | false =>
          obtain rfl := HNo.out rfl
          have HR0 := Lib.hid (HNn.out rfl)
          obtain ⟨q0, q1, q2, q3⟩ := store_reg (k := 0) (A := none) (n := 0) (c := 0) (L := []) HF0.out ⟨rfl, Nat.le_refl _, Nat.zero_le _, fun _ => rfl, .inl rfl⟩
          have hfin : Only No w _ := HO.out.trans q1 (fun j hj e => by omega)
          have HQ := Lib.hid (And.intro q0 (And.intro q2 (And.intro q3 hfin)))
          clear q0 q1 q2 q3 hfin
          go_wp2_with fail
          obtain ⟨q0, q2, q3, hfin⟩ := HQ.out
          exact bodyPost_ret (v := .tuple #[.agg #[.int .i64 0, .slice none 0 0], .bool false]) (by simp [results, Try.results27, go_sem, q2, q3]) rfl ⟨_, rfl, by rw [HR0.out]; exact ⟨_, _, _, rfl, q0⟩, hfin⟩
  · subst e
    have z1 : ((K : Int) == 0) = false := by rw [beq_eq_false_iff_ne]; omega
    have z2 : (65 : Int) ≤ (K : Int) := by omega
    have z3 : (90 : Int) < (K : Int) := by omega
    go_enter Try.func27, Try.ntmps27
    go_wp2_with fail
    go_loop [6] (fun i => ∃ j : Nat, i = .int .i64 (j : Int) ∧ j ≤ T) (fun i => N - (intOf i).toNat)
    case atStart => exact ⟨0, rfl, by omega⟩
    case round =>
      obtain ⟨j, rfl, hj⟩ := hrel
      by_cases hjT : j < T
      · obtain ⟨x, g, rfl, hc, hx⟩ := HB.out j hjT
        have g1 : (((x : Nat) : Int) == (K : Int)) = false := by rw [beq_eq_false_iff_ne]; omega
        have g2 : j < N := by omega
        go_wp2_with fail
        go_round
        case rel => exact ⟨j + 1, by first | rfl | (simp; done) | (simp; omega), by omega⟩
        case measure => first | (simp [intOf]; done) | (simp [intOf]; omega)
      · obtain rfl : j = T := by omega
        cases bb with
        | true =>
          obtain ⟨hTN2, g, g2, rfl, rfl, hc, hc3, hc4⟩ := HY.out rfl
          have g1 : (((K : Nat) : Int) == (K : Int)) = true := beq_iff_eq.2 (by omega)
          obtain ⟨e1, hl3⟩ := HV.out rfl
          have HL := Lib.hid hl3
          have HE1 := Lib.hid e1
          clear hl3 e1
          obtain ⟨q0, q1, q2, q3⟩ := store_reg (k := (q K).1) HF0.out HL.out
          have hfin : Only No w _ := HO.out.trans q1 (fun j hj e => by omega)
          have HQ := Lib.hid (And.intro q0 (And.intro q2 (And.intro q3 hfin)))
          clear q0 q1 q2 q3 hfin
          go_wp2_with fail
          obtain ⟨q0, q2, q3, hfin⟩ := HQ.out
          exact bodyPost_ret (v := .tuple #[.agg #[.int .i64 (q K).1, .slice (q K).2.1 (q K).2.2.1 (q K).2.2.2], .bool true]) (by simp [results, Try.results27, go_sem, q2, q3]) rfl ⟨_, rfl, ⟨_, _, _, by rw [HE1.out], q0⟩, hfin⟩
        | false =>
          obtain rfl := HNo.out rfl
          have HR0 := Lib.hid (HNn.out rfl)
          obtain ⟨q0, q1, q2, q3⟩ := store_reg (k := 0) (A := none) (n := 0) (c := 0) (L := []) HF0.out ⟨rfl, Nat.le_refl _, Nat.zero_le _, fun _ => rfl, .inl rfl⟩
          have hfin : Only No w _ := HO.out.trans q1 (fun j hj e => by omega)
          have HQ := Lib.hid (And.intro q0 (And.intro q2 (And.intro q3 hfin)))
          clear q0 q1 q2 q3 hfin
          go_wp2_with fail
          obtain ⟨q0, q2, q3, hfin⟩ := HQ.out
          exact bodyPost_ret (v := .tuple #[.agg #[.int .i64 0, .slice none 0 0], .bool false]) (by simp [results, Try.results27, go_sem, q2, q3]) rfl ⟨_, rfl, by rw [HR0.out]; exact ⟨_, _, _, rfl, q0⟩, hfin⟩
end Go.Proofs.Ytgdlplkeafeblaa.Rf
