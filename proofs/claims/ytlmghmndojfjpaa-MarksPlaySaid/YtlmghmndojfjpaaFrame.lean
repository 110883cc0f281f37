/- Frames: which blocks a step may have turned; no condition. -/
import Derived.Test.YtlmghmndojfjpaaMapRaw
import Derived.OneCell
import Derived.Deep.Draws
import Derived.Lib.Hide
namespace Go.Proofs.Ytlmghmndojfjpaa.Frm
open Go.RowKit Go.Proofs.Ytlmghmndojfjpaa.MapRaw

/-- From w to w' nothing that was there has turned but blocks of S. -/
structure Only (S : Nat → Prop) (w w' : World) : Prop where
  os : w'.os = w.os
  tape : w'.tape = w.tape
  output : w'.output = w.output
  size : w.heap.size ≤ w'.heap.size
  block : ∀ k, k < w.heap.size → ¬ S k → w'.heap[k]? = w.heap[k]?

def No : Nat → Prop := fun _ => False

section
variable {S S' : Nat → Prop} {a b c w w' : World}
theorem Only.refl (S : Nat → Prop) (w : World) : Only S w w := ⟨rfl, rfl, rfl, Nat.le_refl _, fun _ _ _ => rfl⟩
theorem Only.trans (h : Only S a b) (h' : Only S' b c) (hs : ∀ k, k < a.heap.size → S' k → S k) : Only S a c :=
  ⟨h'.os.trans h.os, h'.tape.trans h.tape, h'.output.trans h.output, Nat.le_trans h.size h'.size, fun k hk hn =>
    (h'.block k (Nat.lt_of_lt_of_le hk h.size) (fun h1 => hn (hs k hk h1))).trans (h.block k hk hn)⟩
theorem Only.trans' (h : Only S a b) (h' : Only S b c) : Only S a c := h.trans h' (fun _ _ h => h)
theorem Only.mono (h : Only S a b) (hs : ∀ k, k < a.heap.size → S k → S' k) : Only S' a b := ⟨h.os, h.tape, h.output, h.size, fun k hk hn => h.block k hk (fun h1 => hn (hs k hk h1))⟩
theorem Only.of_below (h : Below a.heap.size a b) : Only S a b := ⟨h.os, h.tape, h.output, h.size, fun k hk _ => h.block k hk⟩
theorem Only.below (h : Only S a b) {B : Nat} (hB : B ≤ a.heap.size) (hs : ∀ k, S k → B ≤ k) : Below B a b :=
  ⟨h.os, h.tape, h.output, h.size, fun k hk => h.block k (by omega) (fun h1 => by have := hs k h1; omega)⟩
theorem Only.below_size (h : Only No a b) : Below a.heap.size a b := ⟨h.os, h.tape, h.output, h.size, fun k hk => h.block k hk (fun h1 => h1)⟩
theorem Only.alloc (h : Only S a b) (o : Obj) : Only S a (b.alloc o) :=
  h.trans (Only.of_below ((Below.refl _ b).alloc (Nat.le_refl _) o) (S := No)) (fun _ _ h => h.elim)
theorem Only.drew (h : Only S a b) : Only S a b.drew := ⟨h.os, h.tape, h.output, h.size, h.block⟩
theorem Only.drewN (h : Only S a b) (n : Nat) : Only S a (b.drewN n) := ⟨h.os, h.tape, h.output, h.size, h.block⟩
theorem Only.call (h : Only S a b) (hb : Below b.heap.size b c) : Only S a c := h.trans (Only.of_below hb (S := No)) (fun _ _ h => h.elim)
theorem Only.setCell (h : Only S a b) {p : Addr} (hp : a.heap.size ≤ p.block ∨ S p.block) (u : Value) : Only S a (b.setCell p u) :=
  ⟨h.os, h.tape, h.output, by simpa [World.setCell] using h.size, fun k hk hn => (Below.heap_setCell b p u k (by rintro rfl; exact hp.elim (fun h => by omega) hn)).trans (h.block k hk hn)⟩
theorem Only.of_turned {m : Nat} (h : w.mapTurned w' m) : Only (fun k => k = m) w w' := by
  have hs := turned_size h
  have hb := fun k hk => turned_block (k := k) h hk
  obtain ⟨es, clock, es', clock', h0, rfl⟩ := h
  exact ⟨rfl, rfl, rfl, by omega, fun k _ hn => hb k hn⟩
theorem Only.turned (h : Only S a b) {m : Nat} (ht : b.mapTurned c m) (hm : a.heap.size ≤ m ∨ S m) : Only S a c :=
  h.trans (Only.of_turned ht) (fun k hk e => by subst e; exact hm.elim (fun h => by omega) id)
theorem Only.of_grownBy {row : Option Nat} (h : a.grownBy b row) : Only (fun k => row = some k) a b := ⟨h.os, h.tape, h.output, h.size, fun k hk hn => h.block k hk (fun e => hn e.symm)⟩
theorem Only.grown (h : Only S a b) {row : Option Nat} (hg : b.grownBy c row) (hr : ∀ k, row = some k → a.heap.size ≤ k ∨ S k) : Only S a c :=
  h.trans (Only.of_grownBy hg) (fun k hk e => (hr k e).elim (fun h => by omega) id)

theorem cell_block {b : Nat} (h : w'.heap[b]? = w.heap[b]?) (o : Nat) : w'.cell? ⟨b, o, none⟩ = w.cell? ⟨b, o, none⟩ := by simp [World.cell?, h]
theorem frozen_block {b : Nat} (h : w'.heap[b]? = w.heap[b]?) (o : Nat) : w'.frozen? ⟨b, o, none⟩ = w.frozen? ⟨b, o, none⟩ := by simp [World.frozen?, h]
/-- Old cells and marks behind a call that turns nothing. -/
theorem bcell {W w1 : World} (hb : Below W.heap.size W w1) : (∀ b o, b < W.heap.size → w1.cell? ⟨b, o, none⟩ = W.cell? ⟨b, o, none⟩) ∧ (∀ b o, b < W.heap.size → w1.frozen? ⟨b, o, none⟩ = W.frozen? ⟨b, o, none⟩) :=
  ⟨fun b o h => hb.cell (p := ⟨b, o, none⟩) h, fun b o h => hb.frozen (p := ⟨b, o, none⟩) h⟩
theorem alloc_new (w : World) (o : Obj) : (w.alloc o).heap[w.heap.size]? = some o := by
  show (w.heap.push o)[w.heap.size]? = some o
  simp
theorem cell_new (w : World) (cs : Array Value) (t : TypeId) (o : Nat) : (w.alloc (.cells cs t)).cell? ⟨w.heap.size, o, none⟩ = cs[o]? := by
  have h := alloc_new w (.cells cs t)
  unfold World.cell?
  rw [h]
  rfl
theorem frozen_new (w : World) (cs : Array Value) (t : TypeId) (o : Nat) : (w.alloc (.cells cs t)).frozen? ⟨w.heap.size, o, none⟩ = false := by
  have h := alloc_new w (.cells cs t)
  unfold World.frozen?
  rw [h]
  simp
theorem heap_lt {b : Nat} {o : Obj} (h : w.heap[b]? = some o) : b < w.heap.size := (Array.getElem?_eq_some_iff.1 h).1
end
end Go.Proofs.Ytlmghmndojfjpaa.Frm
