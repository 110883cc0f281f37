/- Lines appended to a row of the call's own. -/
import Derived.Test.YtgdlplkeafeblaaLines
import Derived.Laws.AppendOwn
import Derived.Laws.AppendOwnNone
import Derived.Lib.AppendZeros
import Derived.Deep.RegionLaw
namespace Go.Proofs.Ytgdlplkeafeblaa.Lns
open Go.RowKit Go.Proofs.Ytgdlplkeafeblaa.MapRaw Go.Proofs.Ytgdlplkeafeblaa.Frm
set_option linter.unusedVariables false
set_option linter.unusedSimpArgs false

theorem infoStr : (Try.prog.info? 9).map (fun i => (i.zero, i.size, i.bytes)) = some (some (.string ByteArray.empty), 1, 16) := by kernel_rfl

/-- A row of the call's own that holds lines. -/
def Own (w : World) (base : Nat) (v : Value) (L : List ByteArray) : Prop := w.ownsRow base 9 1 v L.length (L.map .string)

theorem own_nil (w : World) (base : Nat) : Own w base (.slice none 0 0) [] := ⟨rfl, .inl ⟨rfl, rfl⟩⟩
theorem Own.lines {w : World} {base : Nat} {v : Value} {L : List ByteArray} (h : Own w base v L) : ∃ A c, v = .slice A L.length c ∧ Lines w A L.length c L := by
  rcases h.2 with ⟨rfl, h0⟩ | ⟨g, cap, cur, rfl, hb, hh, h1, h2, h3, h4⟩
  · have : L = [] := List.length_eq_zero_iff.1 h0
    subst this
    exact ⟨none, 0, rfl, rfl, Nat.le_refl _, Nat.zero_le _, fun _ => rfl, .inl rfl⟩
  · refine ⟨_, _, rfl, rfl, h1, h2, (by intro e; cases e), ?_⟩
    refine .inr ⟨g, 0, rfl, heap_lt hh, fun i hi => ?_⟩
    have h5 : (cur.toList.take (L.length * 1))[i]? = (L.map Value.string)[i]? := by rw [h4]
    rw [List.getElem?_take, if_pos (by omega), List.getElem?_map, List.getElem?_eq_getElem hi, Array.getElem?_toList] at h5
    simp only [World.cell?, hh, Nat.zero_add]
    simp only [Option.isSome_none, Bool.false_eq_true, if_false]
    rw [h5]
    simp [lat, List.getD_eq_getElem?_getD, List.getElem?_eq_getElem hi]

set_option maxRecDepth 100000 in
theorem run_app {w : World} {base : Nat} {v : Value} {X L : List ByteArray} {A : Option Addr} {m c : Nat} {ty : TypeId} (hown : Own w base v X) (hl : Lines w A m c L) (hn : X.length + m ≤ 1099511627776) (hbase : base ≤ w.heap.size) :
    ∃ v' w', (Builtin.append_ #[22, 22] ty #[v, .slice A m c]).run Try.prog w = .ok v' w' ∧ Own w' base v' (X ++ L) ∧ w.grownBy w' v.ownBlock := by
  have hi := infoStr
  cases hinf : Try.prog.info? 9 with
  | none => rw [hinf] at hi; cases hi
  | some i =>
    rw [hinf] at hi
    simp at hi
    obtain ⟨hz, hs, hb⟩ := hi
    have hlen := hl.len
    cases A with
    | none =>
      have hc := hl.nil rfl
      have hm : m = 0 := by have := hl.cap; omega
      subst hc
      subst hm
      have hL : L = [] := List.length_eq_zero_iff.1 hlen.symm
      subst hL
      have hrun := run_append_owned_none (P := Try.prog) (w := w) base 22 ty 9 i 1 Try.underlying22 hinf v _ _ hown
      exact ⟨v, w, hrun, by rw [List.append_nil]; exact hown, ⟨rfl, rfl, rfl, Nat.le_refl _, fun _ _ _ => rfl⟩⟩
    | some a =>
      obtain ⟨v', w', h1, h2, h3, h4⟩ := run_append_own (P := Try.prog) w base 22 ty 9 i (.string ByteArray.empty) 1 16 Try.underlying22 hinf hz hs hb rfl (by decide) v X.length _ hown a m c (L.map .string) (by simp [hlen]) (fun j u hj => by
        have hjL : j < L.length := by
          rcases Nat.lt_or_ge j L.length with h' | h'
          · exact h'
          · rw [List.getElem?_eq_none (by simpa using h')] at hj
            cases hj
        rw [List.getElem?_map, List.getElem?_eq_getElem hjL] at hj
        cases hj
        rcases hl.cells with h0 | ⟨b, off, e, hb, hc⟩
        · omega
        · cases e
          have ha : (⟨b, off, none⟩ : Addr).add j = ⟨b, off + j, none⟩ := by
            unfold Addr.add
            split
            · subst_vars; rfl
            · rfl
          rw [ha, hc j (by omega)]
          simp [lat, List.getD_eq_getElem?_getD, List.getElem?_eq_getElem hjL]) (fun u hu => by
        simp at hu
        obtain ⟨s, _, rfl⟩ := hu
        rfl) (by unfold maxLen; omega) (by omega) hbase
      refine ⟨v', w', h1, ?_, h3⟩
      unfold Own
      rw [List.map_append, List.length_append, ← hlen]
      exact h2

theorem wp_app {w : World} {o : Oper} {a : Act} {K : Act → World → Prop} {Q : Exit → Act → World → Prop} (s x : Operand) (ho : o.op = .call { callee := .builtin .append, args := #[s, x], argTypes := #[22, 22] })
    (base : Nat) (v : Value) (X L : List ByteArray) (A : Option Addr) (m c : Nat) (hs : a.eval s = v) (hx : a.eval x = .slice A m c) (hown : Own w base v X) (hl : Lines w A m c L) (hn : X.length + m ≤ 1099511627776) (hbase : base ≤ w.heap.size)
    (h : ∀ v' w', Own w' base v' (X ++ L) → w.grownBy w' v.ownBlock → K (a.put o.dst v') w') : o.wp Try.prog a w K Q := by
  obtain ⟨v', w', hr, h1, h2⟩ := run_app (ty := o.type) hown hl hn hbase
  exact Lib.wp_append_run w s x _ _ ho v _ hs hx v' w' hr (h v' w' h1 h2)

theorem wpList_app {w : World} {ops : Array Oper} {rest : List Oper} {o : Oper} {a : Act} {Q : Exit → Act → World → Prop} (hgd : o.guard = none) (s x : Operand) (ho : o.op = .call { callee := .builtin .append, args := #[s, x], argTypes := #[22, 22] })
    (base : Nat) (v : Value) (X L : List ByteArray) (A : Option Addr) (m c : Nat) (hs : a.eval s = v) (hx : a.eval x = .slice A m c) (hown : Own w base v X) (hl : Lines w A m c L) (hn : X.length + m ≤ 1099511627776) (hbase : base ≤ w.heap.size)
    (h : ∀ v' w', Own w' base v' (X ++ L) → w.grownBy w' v.ownBlock → wpList Try.prog ops Q rest (a.put o.dst v') w') : wpList Try.prog ops Q (o :: rest) a w :=
  wpList_plain hgd fun _ hK => wp_app s x ho base v X L A m c hs hx hown hl hn hbase fun v' w' h2 h3 => hK _ _ (h v' w' h2 h3)

theorem step_app {w : World} {ops : Array Oper} {o : Oper} {a : Act} {K : Act → World → Prop} {Q : Exit → Act → World → Prop} {E : Prop} (hgd : o.guard = none) (s x : Operand) (ho : o.op = .call { callee := .builtin .append, args := #[s, x], argTypes := #[22, 22] })
    (base : Nat) (v : Value) (X L : List ByteArray) (A : Option Addr) (m c : Nat) (hs : a.eval s = v) (hx : a.eval x = .slice A m c) (hown : Own w base v X) (hl : Lines w A m c L) (hn : X.length + m ≤ 1099511627776) (hbase : base ≤ w.heap.size)
    (h : ∀ v' w', Own w' base v' (X ++ L) → w.grownBy w' v.ownBlock → K (a.put o.dst v') w') : if Region.wanted o (yielded ops a.tmps) = true then Oper.wp Try.prog o a w K Q else E := by
  have hw : Region.wanted o (yielded ops a.tmps) = true := by simp [Region.wanted, hgd]
  rw [if_pos hw]
  exact wp_app s x ho base v X L A m c hs hx hown hl hn hbase h

theorem own_zero {w : World} {base g n : Nat} {cs : Array Value} (h : w.heap[g]? = some (.cells cs 9 (0, 0))) (hb : base ≤ g) (hn : cs.size = n) (hm : n ≤ maxLen) : Own w base (.slice (some ⟨g, 0, none⟩) 0 n) [] :=
  ⟨rfl, .inr ⟨g, n, cs, rfl, hb, h, Nat.zero_le _, hm, by omega, by simp⟩⟩
theorem Own.only {S : Nat → Prop} {w w' : World} {base : Nat} {v : Value} {L : List ByteArray} (h : Own w base v L) (ho : Only S w w') (hS : ∀ b, v.ownBlock = some b → ¬ S b) : Own w' base v L := by
  refine ⟨h.1, ?_⟩
  rcases h.2 with h0 | ⟨g, cap, cur, rfl, hb, hh, h1⟩
  · exact .inl h0
  · exact .inr ⟨g, cap, cur, rfl, hb, (ho.block g (heap_lt hh) (hS g rfl)).trans hh, h1⟩
theorem Own.ge {w : World} {base : Nat} {v : Value} {L : List ByteArray} (h : Own w base v L) {b : Nat} (hb : v.ownBlock = some b) : base ≤ b := by
  rcases h.2 with ⟨rfl, _⟩ | ⟨g, cap, cur, rfl, hg, _⟩
  · cases hb
  · cases hb; exact hg

set_option maxHeartbeats 1000000 in
theorem clone_lines (A : Option Addr) (n c : Nat) (L : List ByteArray) (w : World) (h : Lines w A n c L) (hn : n ≤ 1099511627776) :
    Calls Try.prog 40 #[.slice A n c] w fun e w' => ∃ v, e = .returned v ∧ Own w' w.heap.size v L ∧ Below w.heap.size w w' := by
  have hq : ∀ (w : World) (a : Option Addr) (n c n' c' : Nat), (binOp .eql 22 (.slice a n c) (.slice none n' c')).run Try.prog w = .ok (.bool a.isNone) w := fun w a n c n' c' => Lib.run_eql_slice_nil w _ _ a n c n' c' Try.underlying22
  have hlen := h.len
  cases A with
  | none =>
    have hc := h.nil rfl
    have hm : n = 0 := by have := h.cap; omega
    have hL : L = [] := List.length_eq_zero_iff.1 (hlen.symm.trans hm)
    subst hL
    clear h
    go_enter Try.func40, Try.ntmps40
    go_wp2
    go_ret
    exact ⟨_, rfl, own_nil _ _, Below.refl _ _⟩
  | some a =>
    have H := Lib.hid h
    clear h
    go_enter Try.func40, Try.ntmps40
    go_wp2_with (at_builtin; refine wpList_app rfl _ _ rfl w.heap.size _ [] L (some a) n c rfl rfl (own_zero (alloc_new _ _) (Nat.le_refl _) rfl (Nat.zero_le _)) (H.out.below ((Below.refl _ w).alloc (Nat.le_refl _) _)) (by simp; omega) (by simp) ?_)
    intro v' w1 hown hg
    go_wp2
    go_ret
    exact ⟨v', rfl, hown, (((Only.refl No w).alloc _).grown hg (fun k e => .inl (by simp [Value.ownBlock] at e; omega))).below_size⟩

theorem clone_l (A : Option Addr) (n c : Nat) (L : List ByteArray) (w : World) (h : Lines w A n c L) (hn : n ≤ 1099511627776) :
    Calls Try.prog 40 #[.slice A n c] w fun e w' => ∃ A' c', e = .returned (.slice A' n c') ∧ Lines w' A' n c' L ∧ Only No w w' := by
  refine (clone_lines A n c L w h hn).mono ?_
  rintro e w' ⟨v, rfl, hown, hb⟩
  obtain ⟨A', c', rfl, hl⟩ := hown.lines
  rw [← h.len] at hl ⊢
  exact ⟨A', c', rfl, hl, Only.of_below hb⟩
end Go.Proofs.Ytgdlplkeafeblaa.Lns
