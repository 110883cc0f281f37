/- The document's registers beside other things of the heap: one fact that is carried through a walk. -/
import Derived.Test.YtgdlplkeafeblaaRefSet
import Derived.Test.YtgdlplkeafeblaaRefJoin
import Derived.Test.YtgdlplkeafeblaaSt
namespace Go.Proofs.Ytgdlplkeafeblaa.Rf
open Go.RowKit Go.Proofs.Ytgdlplkeafeblaa.MapRaw Go.Proofs.Ytgdlplkeafeblaa.Frm Go.Proofs.Ytgdlplkeafeblaa.Lns Go.Proofs.Ytgdlplkeafeblaa.Rg Go.Proofs.Ytgdlplkeafeblaa.Keys
set_option linter.unusedVariables false
set_option linter.unusedSimpArgs false

def Away (w : World) (P : Nat) : Fact → Prop
  | .cells b _ _ => ¬ Foot w P b
  | .lines _ _ _ _ => True

/-- The document's file, what has turned since w0 (no more than its own blocks), and other facts. -/
structure RSt (w0 w : World) (base P : Nat) (f : Nat → Option Reg) (fs : List Fact) : Prop where
  r : RAt w base P f
  only : Only (Foot w0 P) w0 w
  foot : ∀ b, Foot w P b → Foot w0 P b ∨ w0.heap.size ≤ b
  fs : ∀ x ∈ fs, x.ok w ∧ Away w P x

section
variable {w0 w w' : World} {base P : Nat} {f f' : Nat → Option Reg} {fs : List Fact}
theorem RAt.away {S : Nat → Prop} (h : RAt w base P f) (ho : Only S w w') (hS : ∀ b, b < w.heap.size → S b → Bare w b) (h1 : ∀ b, Foot w P b → ¬ S b) (h2 : ∀ b cur, w.heap[b]? = some (.cells cur 5 (0, 0)) → ¬ S b) : RAt w' base P f := by
  obtain ⟨v1, v2, q, hbox, hn, hr, hq, hbr⟩ := h.ex
  refine ⟨⟨v1, v2, q, (ho.block P (heap_lt hbox) (h1 P (.inl rfl))).trans hbox, row_only hn ho (fun b hb => ?_), row_only hr ho (fun b hb => h1 b (.inr ⟨_, _, hbox, hb⟩)), fun k r hk => ⟨(hq k r hk).1, (hq k r hk).2.only ho hS⟩, fun b hb o s => ?_⟩, h.ge⟩
  · obtain ⟨cur, hc⟩ := row_block hn hb
    exact h2 _ _ hc
  · obtain ⟨cur, hc⟩ := row_block hr hb
    rw [cell_block (ho.block b (heap_lt hc) (h1 b (.inr ⟨_, _, hbox, hb⟩))) o]
    exact hbr b hb o s
theorem RSt.start (h : RAt w base P f) : RSt w w base P f [] := ⟨h, Only.refl _ _, fun b hb => .inl hb, fun x hx => by cases hx⟩
theorem RSt.no (h : RSt w0 w base P f fs) (ho : Only No w w') : RSt w0 w' base P f fs := by
  refine ⟨h.r.no ho, h.only.trans' (ho.mono (fun _ _ h => h.elim)), fun b hb => h.foot b (foot_no ho h.r hb), fun x hx => ?_⟩
  obtain ⟨h1, h2⟩ := h.fs x hx
  cases x with
  | cells b cs t => exact ⟨(ho.block b (heap_lt h1) (fun h => h)).trans h1, fun hb => h2 (foot_no ho h.r hb)⟩
  | lines A n c L => exact ⟨Lines.only h1 ho (fun _ _ h => h.elim), trivial⟩
theorem RSt.set (h : RSt w0 w base P f fs) (hr : RAt w' base P f') (ho : Only (Foot w P) w w') (hm : ∀ b, Foot w' P b → Foot w P b ∨ w.heap.size ≤ b) : RSt w0 w' base P f' fs := by
  have hsz := h.only.size
  refine ⟨hr, h.only.trans ho (fun k hk hf => (h.foot k hf).resolve_right (by omega)), fun b hb => ?_, fun x hx => ?_⟩
  · rcases hm b hb with h1 | h1
    · exact h.foot b h1
    · right; omega
  · obtain ⟨h1, h2⟩ := h.fs x hx
    cases x with
    | cells b cs t =>
      refine ⟨(ho.block b (heap_lt h1) h2).trans h1, fun hb => ?_⟩
      rcases hm b hb with h3 | h3
      · exact h2 h3
      · have := heap_lt h1; omega
    | lines A n c L => exact ⟨Lines.only h1 ho (fun b _ hb => (Foot.bare h.r hb).1), trivial⟩
theorem RSt.add (h : RSt w0 w base P f fs) {x : Fact} (hx : x.ok w) (ha : Away w P x) : RSt w0 w base P f (x :: fs) :=
  ⟨h.r, h.only, h.foot, fun y hy => by rcases List.mem_cons.1 hy with rfl | h1; exact ⟨hx, ha⟩; exact h.fs y h1⟩
theorem RSt.addl (h : RSt w0 w base P f fs) {A : Option Addr} {n c : Nat} {L : List ByteArray} (hx : Lines w A n c L) : RSt w0 w base P f (.lines A n c L :: fs) := h.add hx trivial
theorem RSt.sel (h : RSt w0 w base P f fs) {gs : List Fact} (hs : ∀ x ∈ gs, x ∈ fs) : RSt w0 w base P f gs := ⟨h.r, h.only, h.foot, fun x hx => h.fs x (hs x hx)⟩
theorem RSt.alloc (h : RSt w0 w base P f fs) (cs : Array Value) (t : TypeId) : RSt w0 (w.alloc (.cells cs t)) base P f (.cells w.heap.size cs t :: fs) :=
  (h.no ((Only.refl _ _).alloc _)).add (alloc_new w _) (fun hb => by have := (Foot.lt h.r (foot_no ((Only.refl _ _).alloc _) h.r hb)).1; omega)
/-- A box of a register is written. -/
theorem RSt.write (h : RSt w0 w base P f fs) {p : Nat} {cs cs' : Array Value} (hp : w.heap[p]? = some (.cells cs 24 (0, 0))) (hge : w0.heap.size ≤ p) (haw : ¬ Foot w P p)
    (hbare : ∀ (o : Nat) s, cs[o]? ≠ some (.string s)) (ho : Only (fun b => b = p) w w') (hn : w'.heap[p]? = some (.cells cs' 24 (0, 0))) {gs : List Fact}
    (hs : ∀ x ∈ gs, x = .cells p cs' 24 ∨ (x ∈ fs ∧ ∀ b ds t', x = .cells b ds t' → b ≠ p)) : RSt w0 w' base P f gs := by
  have hbp : ∀ b, b < w.heap.size → b = p → Bare w b := fun b _ e => by subst e; exact bare_cells hp hbare
  have hPp : P ≠ p := fun e => haw (.inl e.symm)
  have hfoot : ∀ b, Foot w' P b → Foot w P b := by
    intro b hb
    obtain ⟨v1, v2, q, hbox, _⟩ := h.r.ex
    rcases hb with rfl | ⟨u1, u2, hu, hb⟩
    · exact .inl rfl
    · rw [ho.block P (heap_lt hbox) hPp] at hu
      exact .inr ⟨u1, u2, hu, hb⟩
  refine ⟨h.r.away ho hbp (fun b hb e => by subst e; exact haw hb) (fun b cur hc e => by subst e; rw [hp] at hc; cases hc), h.only.trans ho (fun k hk e => by omega), fun b hb => h.foot b (hfoot b hb), fun x hx => ?_⟩
  rcases hs x hx with rfl | ⟨hx, hne⟩
  · exact ⟨hn, fun hb => haw (hfoot _ hb)⟩
  · obtain ⟨h1, h2⟩ := h.fs x hx
    cases x with
    | cells b ds t => exact ⟨(ho.block b (heap_lt h1) (fun e => hne _ _ _ rfl e)).trans h1, fun hb => h2 (hfoot b hb)⟩
    | lines A n c L => exact ⟨Lines.only h1 ho hbp, trivial⟩
theorem RSt.i0 {x : Fact} (h : RSt w0 w base P f (x :: fs)) : x.ok w := (h.fs _ (by simp)).1
theorem RSt.i1 {x y : Fact} (h : RSt w0 w base P f (y :: x :: fs)) : x.ok w := (h.fs _ (by simp)).1
theorem RSt.i2 {x y z : Fact} (h : RSt w0 w base P f (z :: y :: x :: fs)) : x.ok w := (h.fs _ (by simp)).1
theorem RSt.i3 {x y z a : Fact} (h : RSt w0 w base P f (a :: z :: y :: x :: fs)) : x.ok w := (h.fs _ (by simp)).1

theorem rset_st (k : Nat) (r : Reg) (w : World) {A : Option Addr} {m c : Nat} (h : RSt w0 w base P f fs) (hL : Lines w A m c r.2) (hk : k < 256) :
    Calls Try.prog 35 #[.pointer (some ⟨P, 0, none⟩), .int .u8 (k : Int), .agg #[.int .i64 r.1, .slice A m c]] w fun e w' => e = .returned (.tuple #[]) ∧ RSt w0 w' base P (updR f k (some r)) fs := by
  refine (rset_calls base P f k r w h.r hL hk (by have := h.r.ge; have := h.r.lt; omega)).mono ?_
  rintro e w' ⟨rfl, hr, ho, hm⟩
  exact ⟨rfl, h.set hr ho hm⟩
theorem rget_st (n : Nat) (w : World) (h : RSt w0 w base P f fs) (hlt : n < 256) :
    Calls Try.prog 27 #[.pointer (some ⟨P, 0, none⟩), .int .u8 (n : Int)] w fun e w' => ∃ A m c, e = .returned (.tuple #[.agg #[.int .i64 (regOr (f (Rg.keyOf n))).1, .slice A m c], .bool (f (Rg.keyOf n)).isSome]) ∧ RSt w0 w' base P f (.lines A m c (regOr (f (Rg.keyOf n))).2 :: fs) := by
  refine (rget_calls base P f n w h.r hlt).mono ?_
  rintro e w' ⟨v, rfl, ⟨A, m, c, rfl, hl⟩, hO⟩
  exact ⟨A, m, c, rfl, (h.no hO).addl hl⟩
end
end Go.Proofs.Ytgdlplkeafeblaa.Rf
