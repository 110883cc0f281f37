/- The program's registers and the document's, side by side: one fact that is carried through a walk. -/
import Derived.Test.YtgdlplkeafeblaaRefOps
namespace Go.Proofs.Ytgdlplkeafeblaa.Rf
open Go.RowKit Go.Shelf Go.Proofs.Ytgdlplkeafeblaa.MapRaw Go.Proofs.Ytgdlplkeafeblaa.Frm Go.Proofs.Ytgdlplkeafeblaa.Lns Go.Proofs.Ytgdlplkeafeblaa.Rg Go.Proofs.Ytgdlplkeafeblaa.Keys
set_option linter.unusedVariables false
set_option linter.unusedSimpArgs false

structure St2 (w0 w : World) (B M : Nat) (f : Nat → Option Reg) (P : Nat) (g : Nat → Option Reg) (fs : List Fact) : Prop where
  reg : At w B M f
  bd : Bd f
  ge : w0.heap.size ≤ M
  rst : RSt w0 w w0.heap.size P g fs
  away : ¬ Foot w P B

section
variable {w0 w w' : World} {B M P : Nat} {f f' g g' : Nat → Option Reg} {fs : List Fact}
theorem St2.bel (h : St2 w0 w B M f P g fs) : Below w0.heap.size w0 w := by
  refine h.rst.only.below (Nat.le_refl _) (fun k hk => ?_)
  have hP := h.rst.r.ge
  rcases hk with rfl | ⟨v1, v2, hb, _⟩
  · exact hP
  · have := heap_lt hb; omega
theorem St2.no (h : St2 w0 w B M f P g fs) (ho : Only No w w') : St2 w0 w' B M f P g fs :=
  ⟨h.reg.no ho, h.bd, h.ge, h.rst.no ho, fun hb => h.away (foot_no ho h.rst.r hb)⟩
theorem St2.call (h : St2 w0 w B M f P g fs) (hb : Below w.heap.size w w') : St2 w0 w' B M f P g fs := h.no (Only.of_below hb)
theorem St2.notmap (h : At w B M f) {b : Nat} {cs : Array Value} {t : TypeId} (hb : w.heap[b]? = some (.cells cs t (0, 0))) : b ≠ M := by
  intro e
  obtain ⟨u, hg, _⟩ := h.map
  obtain ⟨es, clock, h3⟩ := hg.is_map
  rw [← e, hb] at h3
  cases h3
theorem St2.prog (h : St2 w0 w B M f P g fs) (hA : At w' B M f') (ho : Only (fun b => b = M) w w') (hd : Bd f') : St2 w0 w' B M f' P g fs := by
  have hbm : ∀ b, b < w.heap.size → b = M → Bare w b := fun b _ e => by subst e; exact h.reg.bare
  have hfm : ∀ b, Foot w P b → b ≠ M := fun b hb => by
    obtain ⟨_, cur, e, hc, _⟩ := Foot.bare h.rst.r hb
    exact St2.notmap h.reg hc
  have hfoot : ∀ b, Foot w' P b → Foot w P b := by
    intro b hb
    obtain ⟨v1, v2, q, hbox, _⟩ := h.rst.r.ex
    rcases hb with rfl | ⟨u1, u2, hu, hb⟩
    · exact .inl rfl
    · rw [ho.block P (heap_lt hbox) (hfm P (.inl rfl))] at hu
      exact .inr ⟨u1, u2, hu, hb⟩
  refine ⟨hA, hd, h.ge, ⟨h.rst.r.away ho hbm (fun b hb => hfm b hb) (fun b cur hc => St2.notmap h.reg hc), h.rst.only.trans ho (fun k hk e => by have := h.ge; omega), fun b hb => h.rst.foot b (hfoot b hb), fun x hx => ?_⟩, fun hb => h.away (hfoot _ hb)⟩
  obtain ⟨h1, h2⟩ := h.rst.fs x hx
  cases x with
  | cells b cs t => exact ⟨(ho.block b (heap_lt h1) (St2.notmap h.reg h1)).trans h1, fun hb => h2 (hfoot b hb)⟩
  | lines A n c L => exact ⟨Lines.only h1 ho hbm, trivial⟩
theorem St2.ref (h : St2 w0 w B M f P g fs) (hr : RAt w' w0.heap.size P g') (ho : Only (Foot w P) w w') (hm : ∀ b, Foot w' P b → Foot w P b ∨ w.heap.size ≤ b) : St2 w0 w' B M f P g' fs := by
  have hMn : ¬ Foot w P M := fun hb => by
    obtain ⟨_, cur, e, hc, _⟩ := Foot.bare h.rst.r hb
    exact St2.notmap h.reg hc rfl
  refine ⟨h.reg.only ho (fun b _ hb => (Foot.bare h.rst.r hb).1) h.away hMn, h.bd, h.ge, h.rst.set hr ho hm, fun hb => ?_⟩
  rcases hm B hb with h1 | h1
  · exact h.away h1
  · have := heap_lt h.reg.box; omega
theorem St2.add (h : St2 w0 w B M f P g fs) {x : Fact} (hx : x.ok w) (ha : Away w P x) : St2 w0 w B M f P g (x :: fs) := ⟨h.reg, h.bd, h.ge, h.rst.add hx ha, h.away⟩
theorem St2.addl (h : St2 w0 w B M f P g fs) {A : Option Addr} {n c : Nat} {L : List ByteArray} (hx : Lines w A n c L) : St2 w0 w B M f P g (.lines A n c L :: fs) := h.add hx trivial
theorem St2.sel (h : St2 w0 w B M f P g fs) {gs : List Fact} (hs : ∀ x ∈ gs, x ∈ fs) : St2 w0 w B M f P g gs := ⟨h.reg, h.bd, h.ge, h.rst.sel hs, h.away⟩
theorem St2.alloc (h : St2 w0 w B M f P g fs) (cs : Array Value) (t : TypeId) : St2 w0 (w.alloc (.cells cs t)) B M f P g (.cells w.heap.size cs t :: fs) :=
  ⟨h.reg.no ((Only.refl _ _).alloc _), h.bd, h.ge, h.rst.alloc cs t, fun hb => h.away (foot_no ((Only.refl _ _).alloc _) h.rst.r hb)⟩
theorem St2.i0 {x : Fact} (h : St2 w0 w B M f P g (x :: fs)) : x.ok w := h.rst.i0
theorem St2.i1 {x y : Fact} (h : St2 w0 w B M f P g (y :: x :: fs)) : x.ok w := h.rst.i1
theorem St2.i2 {x y z : Fact} (h : St2 w0 w B M f P g (z :: y :: x :: fs)) : x.ok w := h.rst.i2
theorem St2.i3 {x y z a : Fact} (h : St2 w0 w B M f P g (a :: z :: y :: x :: fs)) : x.ok w := h.rst.i3

theorem pcut_st2 (n : Nat) (r : Reg) (w : World) {A : Option Addr} {m c : Nat} (h : St2 w0 w B M f P g fs) (hl : Lines w A m c r.2) (hlt : n < 256) (hsz : sizeL r.2 ≤ 268435456) :
    Calls Try.prog 18 #[.pointer (some ⟨B, 0, none⟩), .int .u8 (n : Int), .agg #[.int .i64 r.1, .slice A m c]] w fun e w' => e = .returned (.int .i64 (setE f n r : Nat)) ∧ St2 w0 w' B M (setF f (cutF f r) n r) P g fs := by
  refine (cut_calls B M f n _ r w h.reg ⟨_, _, _, rfl, hl⟩ hlt hsz h.bd).mono ?_
  rintro e w' ⟨rfl, hA, hO⟩
  exact ⟨rfl, h.prog hA hO (bd_cut h.bd n r)⟩
theorem pyank_st2 (n : Nat) (r : Reg) (w : World) {A : Option Addr} {m c : Nat} (h : St2 w0 w B M f P g fs) (hl : Lines w A m c r.2) (hlt : n < 256) (hsz : sizeL r.2 ≤ 268435456) :
    Calls Try.prog 21 #[.pointer (some ⟨B, 0, none⟩), .int .u8 (n : Int), .agg #[.int .i64 r.1, .slice A m c]] w fun e w' => e = .returned (.int .i64 (setE f n r : Nat)) ∧ St2 w0 w' B M (setF f (updR f 48 (some r)) n r) P g fs := by
  refine (yank_calls B M f n _ r w h.reg ⟨_, _, _, rfl, hl⟩ hlt hsz h.bd).mono ?_
  rintro e w' ⟨rfl, hA, hO⟩
  exact ⟨rfl, h.prog hA hO (bd_yank h.bd n r)⟩
theorem pput_st2 (n : Nat) (r : Reg) (w : World) {A : Option Addr} {m c : Nat} (h : St2 w0 w B M f P g fs) (hl : Lines w A m c r.2) (hlt : n < 256) (hsz : sizeL r.2 ≤ 268435456) :
    Calls Try.prog 23 #[.pointer (some ⟨B, 0, none⟩), .int .u8 (n : Int), .agg #[.int .i64 r.1, .slice A m c]] w fun e w' => e = .returned (.int .i64 (putE f n r : Nat)) ∧ St2 w0 w' B M (putF f n r) P g fs := by
  refine (put_calls B M f n _ r w h.reg ⟨_, _, _, rfl, hl⟩ hlt hsz h.bd).mono ?_
  rintro e w' ⟨rfl, hA, hO⟩
  exact ⟨rfl, h.prog hA hO (bd_put h.bd n r)⟩
theorem pget_st2 (n : Nat) (w : World) (h : St2 w0 w B M f P g fs) (hlt : n < 256) :
    Calls Try.prog 19 #[.pointer (some ⟨B, 0, none⟩), .int .u8 (n : Int)] w fun e w' => ∃ A m c, e = .returned (.tuple #[.agg #[.int .i64 (regOr (f (Rg.keyOf n))).1, .slice A m c], .bool (f (Rg.keyOf n)).isSome]) ∧ St2 w0 w' B M f P g (.lines A m c (regOr (f (Rg.keyOf n))).2 :: fs) := by
  have hl : (regOr (f (Rg.keyOf n))).2.length ≤ 1099511627776 := by
    cases e : f (Rg.keyOf n) with
    | none => simp [regOr]
    | some r => have := h.bd _ _ e; have := length_le_sizeL r.2; simp only [regOr, Option.getD_some]; omega
  refine (get_calls B M f n w h.reg hlt hl).mono ?_
  rintro e w' ⟨v, rfl, ⟨A, m, c, rfl, hl⟩, hO⟩
  exact ⟨A, m, c, rfl, (h.no hO).addl hl⟩
theorem St2.ofr (h : St2 w0 w B M f P g fs) (hr : RSt w w' w0.heap.size P g' []) : St2 w0 w' B M f P g' fs := h.ref hr.r hr.only hr.foot
theorem dcut_st2 (n : Nat) (r : Reg) (w : World) {A : Option Addr} {m c : Nat} (h : St2 w0 w B M f P g fs) (hl : Lines w A m c r.2) (hlt : n < 256) (hsz : sizeL r.2 ≤ 268435456) (hg : Bd g) :
    Calls Try.prog 25 #[.pointer (some ⟨P, 0, none⟩), .int .u8 (n : Int), .agg #[.int .i64 r.1, .slice A m c]] w fun e w' => e = .returned (.int .i64 (setE g n r : Nat)) ∧ St2 w0 w' B M f P (setF g (cutF g r) n r) fs := by
  refine (rcut_st n r w (RSt.start h.rst.r) hl hlt hsz hg).mono ?_
  rintro e w' ⟨rfl, hr⟩
  exact ⟨rfl, h.ofr hr⟩
theorem dyank_st2 (n : Nat) (r : Reg) (w : World) {A : Option Addr} {m c : Nat} (h : St2 w0 w B M f P g fs) (hl : Lines w A m c r.2) (hlt : n < 256) (hsz : sizeL r.2 ≤ 268435456) (hg : Bd g) :
    Calls Try.prog 22 #[.pointer (some ⟨P, 0, none⟩), .int .u8 (n : Int), .agg #[.int .i64 r.1, .slice A m c]] w fun e w' => e = .returned (.int .i64 (setE g n r : Nat)) ∧ St2 w0 w' B M f P (setF g (updR g 48 (some r)) n r) fs := by
  refine (ryank_st n r w (RSt.start h.rst.r) hl hlt hsz hg).mono ?_
  rintro e w' ⟨rfl, hr⟩
  exact ⟨rfl, h.ofr hr⟩
theorem dput_st2 (n : Nat) (r : Reg) (w : World) {A : Option Addr} {m c : Nat} (h : St2 w0 w B M f P g fs) (hl : Lines w A m c r.2) (hlt : n < 256) (hsz : sizeL r.2 ≤ 268435456) (hg : Bd g) :
    Calls Try.prog 24 #[.pointer (some ⟨P, 0, none⟩), .int .u8 (n : Int), .agg #[.int .i64 r.1, .slice A m c]] w fun e w' => e = .returned (.int .i64 (putE g n r : Nat)) ∧ St2 w0 w' B M f P (putF g n r) fs := by
  refine (rput_st n r w (RSt.start h.rst.r) hl hlt hsz hg).mono ?_
  rintro e w' ⟨rfl, hr⟩
  exact ⟨rfl, h.ofr hr⟩
theorem dget_st2 (n : Nat) (w : World) (h : St2 w0 w B M f P g fs) (hlt : n < 256) :
    Calls Try.prog 27 #[.pointer (some ⟨P, 0, none⟩), .int .u8 (n : Int)] w fun e w' => ∃ A m c, e = .returned (.tuple #[.agg #[.int .i64 (regOr (g (Rg.keyOf n))).1, .slice A m c], .bool (g (Rg.keyOf n)).isSome]) ∧ St2 w0 w' B M f P g (.lines A m c (regOr (g (Rg.keyOf n))).2 :: fs) := by
  refine (rget_calls w0.heap.size P g n w h.rst.r hlt).mono ?_
  rintro e w' ⟨v, rfl, ⟨A, m, c, rfl, hl⟩, hO⟩
  exact ⟨A, m, c, rfl, (h.no hO).addl hl⟩
end
end Go.Proofs.Ytgdlplkeafeblaa.Rf
