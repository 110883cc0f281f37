/- Registers beside other things of the heap: one fact that is carried through a walk; no condition. -/
import Derived.Test.YtgdlplkeafeblaaRegsYC
import Derived.Test.YtgdlplkeafeblaaRegsNames
namespace Go.Proofs.Ytgdlplkeafeblaa.Rg
open Go.RowKit Go.Shelf Go.Proofs.Ytgdlplkeafeblaa.MapRaw Go.Proofs.Ytgdlplkeafeblaa.Frm Go.Proofs.Ytgdlplkeafeblaa.Lns
set_option linter.unusedVariables false
set_option linter.unusedSimpArgs false

/-- Something that is so of a world, and stays so where only a map's block is turned. -/
inductive Fact
  | cells (b : Nat) (cs : Array Value) (t : TypeId)
  | lines (A : Option Addr) (n c : Nat) (L : List ByteArray)
def Fact.ok (w : World) : Fact → Prop
  | .cells b cs t => w.heap[b]? = some (.cells cs t (0, 0))
  | .lines A n c L => Lines w A n c L

/-- A file and its registers, what was there first and has not turned, and other facts. -/
structure St (w0 w : World) (B M : Nat) (f : Nat → Option Reg) (fs : List Fact) : Prop where
  reg : At w B M f
  ge : w0.heap.size ≤ M
  bel : Below w0.heap.size w0 w
  fs : ∀ x ∈ fs, x.ok w
  bd : Bd f

section
variable {w0 w w' : World} {B M : Nat} {f f' : Nat → Option Reg} {fs : List Fact}
theorem St.no (h : St w0 w B M f fs) (ho : Only No w w') : St w0 w' B M f fs := by
  refine ⟨h.reg.no ho, h.ge, h.bel.trans (ho.below (B := w0.heap.size) h.bel.size (fun k h => h.elim)), fun x hx => ?_, h.bd⟩
  have h1 := h.fs x hx
  cases x with
  | cells b cs t => exact (ho.block b (heap_lt h1) (fun h => h)).trans h1
  | lines A n c L => exact Lines.only h1 ho (fun _ _ h => h.elim)
theorem St.call (h : St w0 w B M f fs) (hb : Below w.heap.size w w') : St w0 w' B M f fs := h.no (Only.of_below hb)
theorem St.map (h : St w0 w B M f fs) (hA : At w' B M f') (ho : Only (fun b => b = M) w w') (hd : Bd f') : St w0 w' B M f' fs := by
  refine ⟨hA, h.ge, h.bel.trans (ho.below (B := w0.heap.size) h.bel.size (fun k e => by have := h.ge; omega)), fun x hx => ?_, hd⟩
  have h1 := h.fs x hx
  cases x with
  | cells b cs t =>
    refine (ho.block b (heap_lt h1) (fun e => ?_)).trans h1
    obtain ⟨g, hg, _⟩ := h.reg.map
    obtain ⟨es, clock, h3⟩ := hg.is_map
    rw [← e] at h3
    have h1 : w.heap[b]? = some (.cells cs t (0, 0)) := h1
    rw [h1] at h3
    cases h3
  | lines A n c L => exact Lines.only h1 ho (fun b _ e => by subst e; exact h.reg.bare)
theorem St.add (h : St w0 w B M f fs) {x : Fact} (hx : x.ok w) : St w0 w B M f (x :: fs) :=
  ⟨h.reg, h.ge, h.bel, fun y hy => by rcases List.mem_cons.1 hy with rfl | h1; exact hx; exact h.fs y h1, h.bd⟩
theorem St.only (h : St w0 w B M f fs) {gs : List Fact} (hs : ∀ x ∈ gs, x ∈ fs) : St w0 w B M f gs := ⟨h.reg, h.ge, h.bel, fun x hx => h.fs x (hs x hx), h.bd⟩
theorem St.alloc (h : St w0 w B M f fs) (cs : Array Value) (t : TypeId) : St w0 (w.alloc (.cells cs t)) B M f (.cells w.heap.size cs t :: fs) :=
  (h.no ((Only.refl _ _).alloc _)).add (alloc_new w _)
/-- A block without strings is written: it has new cells, all else stays. -/
theorem St.write (h : St w0 w B M f fs) {p : Nat} {cs cs' : Array Value} {t : TypeId} (hp : w.heap[p]? = some (.cells cs t (0, 0))) (hge : w0.heap.size ≤ p)
    (hbare : ∀ (o : Nat) s, cs[o]? ≠ some (.string s)) (ho : Only (fun b => b = p) w w') (hn : w'.heap[p]? = some (.cells cs' t (0, 0))) (hBp : B ≠ p) {gs : List Fact}
    (hs : ∀ x ∈ gs, x = .cells p cs' t ∨ (x ∈ fs ∧ ∀ b ds t', x = .cells b ds t' → b ≠ p)) : St w0 w' B M f gs := by
  have hbp : ∀ b, b < w.heap.size → b = p → Bare w b := fun b _ e => by subst e; exact bare_cells hp hbare
  have hMp : M ≠ p := by
    intro e
    obtain ⟨g, hg, _⟩ := h.reg.map
    obtain ⟨es, clock, h3⟩ := hg.is_map
    rw [e, hp] at h3
    cases h3
  refine ⟨h.reg.only ho hbp (fun e => hBp e) (fun e => hMp e), h.ge, h.bel.trans (ho.below (B := w0.heap.size) h.bel.size (fun k e => by omega)), fun x hx => ?_, h.bd⟩
  rcases hs x hx with rfl | ⟨hx, hne⟩
  · exact hn
  · have h1 := h.fs x hx
    cases x with
    | cells b cs t => exact (ho.block b (heap_lt h1) (fun e => hne _ _ _ rfl e)).trans h1
    | lines A n c L => exact Lines.only h1 ho hbp
theorem St.i0 {x : Fact} (h : St w0 w B M f (x :: fs)) : x.ok w := h.fs _ (by simp)
theorem St.i1 {x y : Fact} (h : St w0 w B M f (y :: x :: fs)) : x.ok w := h.fs _ (by simp)
theorem St.i2 {x y z : Fact} (h : St w0 w B M f (z :: y :: x :: fs)) : x.ok w := h.fs _ (by simp)
theorem St.i3 {x y z a : Fact} (h : St w0 w B M f (a :: z :: y :: x :: fs)) : x.ok w := h.fs _ (by simp)
theorem St.i4 {x y z a b : Fact} (h : St w0 w B M f (b :: a :: z :: y :: x :: fs)) : x.ok w := h.fs _ (by simp)
end

theorem new_st (w w1 : World) (hb : Below w.heap.size w w1) : Calls Try.prog 17 #[] w1 fun e w' => ∃ B M, e = .returned (.pointer (some ⟨B, 0, none⟩)) ∧ St w w' B M (fun _ => none) [] := by
  refine (new_calls w1).mono ?_
  rintro e w2 ⟨rfl, hA, hO⟩
  exact ⟨_, _, rfl, hA, hb.size, hb.trans (hO.below (B := w.heap.size) hb.size (fun k h => h.elim)), (fun x hx => by cases hx), bd_none⟩

section
variable {w0 : World} {B M : Nat} {f : Nat → Option Reg} {fs : List Fact}
theorem cut_st (n : Nat) (r : Reg) (w : World) {A : Option Addr} {m c : Nat} (h : St w0 w B M f fs) (hl : Lines w A m c r.2) (hlt : n < 256) (hsz : sizeL r.2 ≤ 268435456) :
    Calls Try.prog 18 #[.pointer (some ⟨B, 0, none⟩), .int .u8 (n : Int), .agg #[.int .i64 r.1, .slice A m c]] w fun e w' => e = .returned (.int .i64 (setE f n r : Nat)) ∧ St w0 w' B M (setF f (cutF f r) n r) fs := by
  refine (cut_calls B M f n _ r w h.reg ⟨_, _, _, rfl, hl⟩ hlt hsz h.bd).mono ?_
  rintro e w' ⟨rfl, hA, hO⟩
  exact ⟨rfl, h.map hA hO (bd_cut h.bd n r)⟩
theorem yank_st (n : Nat) (r : Reg) (w : World) {A : Option Addr} {m c : Nat} (h : St w0 w B M f fs) (hl : Lines w A m c r.2) (hlt : n < 256) (hsz : sizeL r.2 ≤ 268435456) :
    Calls Try.prog 21 #[.pointer (some ⟨B, 0, none⟩), .int .u8 (n : Int), .agg #[.int .i64 r.1, .slice A m c]] w fun e w' => e = .returned (.int .i64 (setE f n r : Nat)) ∧ St w0 w' B M (setF f (updR f 48 (some r)) n r) fs := by
  refine (yank_calls B M f n _ r w h.reg ⟨_, _, _, rfl, hl⟩ hlt hsz h.bd).mono ?_
  rintro e w' ⟨rfl, hA, hO⟩
  exact ⟨rfl, h.map hA hO (bd_yank h.bd n r)⟩
theorem put_st (n : Nat) (r : Reg) (w : World) {A : Option Addr} {m c : Nat} (h : St w0 w B M f fs) (hl : Lines w A m c r.2) (hlt : n < 256) (hsz : sizeL r.2 ≤ 268435456) :
    Calls Try.prog 23 #[.pointer (some ⟨B, 0, none⟩), .int .u8 (n : Int), .agg #[.int .i64 r.1, .slice A m c]] w fun e w' => e = .returned (.int .i64 (putE f n r : Nat)) ∧ St w0 w' B M (putF f n r) fs := by
  refine (put_calls B M f n _ r w h.reg ⟨_, _, _, rfl, hl⟩ hlt hsz h.bd).mono ?_
  rintro e w' ⟨rfl, hA, hO⟩
  exact ⟨rfl, h.map hA hO (bd_put h.bd n r)⟩
/-- Get: the register is laid into a fresh slice; the lines are a fact more. -/
theorem get_st (n : Nat) (w : World) (h : St w0 w B M f fs) (hlt : n < 256) :
    Calls Try.prog 19 #[.pointer (some ⟨B, 0, none⟩), .int .u8 (n : Int)] w fun e w' => ∃ A m c, e = .returned (.tuple #[.agg #[.int .i64 (regOr (f (keyOf n))).1, .slice A m c], .bool (f (keyOf n)).isSome]) ∧ St w0 w' B M f (.lines A m c (regOr (f (keyOf n))).2 :: fs) := by
  have hl : (regOr (f (keyOf n))).2.length ≤ 1099511627776 := by
    cases e : f (keyOf n) with
    | none => simp [regOr]
    | some r => have := h.bd _ _ e; have := length_le_sizeL r.2; simp only [regOr, Option.getD_some]; omega
  refine (get_calls B M f n w h.reg hlt hl).mono ?_
  rintro e w' ⟨v, rfl, ⟨A, m, c, rfl, hl⟩, hO⟩
  exact ⟨A, m, c, rfl, (h.no hO).add hl⟩
end
end Go.Proofs.Ytgdlplkeafeblaa.Rg
