/- The program's marks and the document's, side by side: one fact that is carried through a walk; no condition. -/
import Derived.Test.YtlmghmndojfjpaaMSet
import Derived.Test.YtlmghmndojfjpaaSorted2
import Derived.Test.YtlmghmndojfjpaaMarksAdjust
namespace Go.Proofs.Ytlmghmndojfjpaa.Mf
open Go.RowKit Go.Shelf Go.Proofs.Ytlmghmndojfjpaa.MapRaw Go.Proofs.Ytlmghmndojfjpaa.Frm Go.Proofs.Ytlmghmndojfjpaa.Mk Go.Proofs.Ytlmghmndojfjpaa.Keys
set_option linter.unusedVariables false
set_option linter.unusedSimpArgs false

/-- A block of the call's own: its number, its cells, their type. -/
abbrev Blk := Nat × Array Value × TypeId

structure M2 (w0 w : World) (B M : Nat) (f : Nat → Option (Int × Int)) (P : Nat) (g : Nat → Option (Int × Int)) (fs : List Blk) : Prop where
  reg : At w B M f
  geB : w0.heap.size ≤ B
  geM : w0.heap.size ≤ M
  r : RAt w w0.heap.size P g
  bel : Below w0.heap.size w0 w
  awayB : ¬ Foot w P B
  awayM : ¬ Foot w P M
  fs : ∀ x ∈ fs, w.heap[x.1]? = some (.cells x.2.1 x.2.2 (0, 0)) ∧ ¬ Foot w P x.1

theorem bare_map {w : World} {M : Nat} {a : Array MapEntry} {b : Nat} (h : w.heap[M]? = some (.map a b)) : Bare w M := trivial

section
variable {w0 w w' : World} {B M P : Nat} {f f' g g' : Nat → Option (Int × Int)} {fs : List Blk}
theorem M2.ismap (h : M2 w0 w B M f P g fs) : ∃ es clock, w.heap[M]? = some (.map es clock) := h.reg.map.is_map
theorem M2.notmap (h : M2 w0 w B M f P g fs) {b : Nat} {cs : Array Value} {t : TypeId} (hb : w.heap[b]? = some (.cells cs t (0, 0))) : b ≠ M := by
  intro e
  obtain ⟨es, clock, h3⟩ := h.ismap
  rw [← e, hb] at h3
  cases h3
theorem M2.no (h : M2 w0 w B M f P g fs) (ho : Only No w w') : M2 w0 w' B M f P g fs := by
  have hB := heap_lt h.reg.box
  have hM := h.reg.map.lt
  refine ⟨h.reg.of (ho.block B hB (fun h => h)) (ho.block M hM (fun h => h)), h.geB, h.geM, h.r.no ho, h.bel.trans (ho.below (B := w0.heap.size) h.bel.size (fun k h => h.elim)), fun hb => h.awayB (foot_no ho h.r hb), fun hb => h.awayM (foot_no ho h.r hb), fun x hx => ?_⟩
  obtain ⟨h1, h2⟩ := h.fs x hx
  exact ⟨(ho.block _ (heap_lt h1) (fun h => h)).trans h1, fun hb => h2 (foot_no ho h.r hb)⟩
theorem M2.prog (h : M2 w0 w B M f P g fs) (hA : At w' B M f') (ho : Only (fun b => b = M) w w') : M2 w0 w' B M f' P g fs := by
  obtain ⟨es, clock, hm⟩ := h.ismap
  have hP : P ≠ M := fun e => h.awayM (.inl e.symm)
  have hfoot : ∀ b, Foot w' P b → Foot w P b := by
    intro b hb
    obtain ⟨v1, v2, q, hbox, _⟩ := h.r.ex
    rcases hb with rfl | ⟨u1, u2, hu, hb⟩
    · exact .inl rfl
    · rw [ho.block P (heap_lt hbox) hP] at hu
      exact .inr ⟨u1, u2, hu, hb⟩
  refine ⟨hA, h.geB, h.geM, h.r.only ho (fun b _ e => by subst e; exact bare_map hm) (fun b cur e hc _ _ => h.notmap hc), h.bel.trans (ho.below (B := w0.heap.size) h.bel.size (fun k e => by have := h.geM; omega)), fun hb => h.awayB (hfoot _ hb), fun hb => h.awayM (hfoot _ hb), fun x hx => ?_⟩
  obtain ⟨h1, h2⟩ := h.fs x hx
  exact ⟨(ho.block _ (heap_lt h1) (h.notmap h1)).trans h1, fun hb => h2 (hfoot _ hb)⟩
theorem M2.ref (h : M2 w0 w B M f P g fs) (hr : RAt w' w0.heap.size P g') (ho : Only (Foot w P) w w') (hm : ∀ b, Foot w' P b → Foot w P b ∨ w.heap.size ≤ b) : M2 w0 w' B M f P g' fs := by
  have hB := heap_lt h.reg.box
  have hM := h.reg.map.lt
  refine ⟨h.reg.of (ho.block B hB h.awayB) (ho.block M hM h.awayM), h.geB, h.geM, hr, h.bel.trans (ho.below (B := w0.heap.size) h.bel.size (fun k hk => ?_)), fun hb => ?_, fun hb => ?_, fun x hx => ?_⟩
  · have := (Foot.lt h.r hk).2
    have := h.r.ge
    omega
  · rcases hm _ hb with h1 | h1
    · exact h.awayB h1
    · omega
  · rcases hm _ hb with h1 | h1
    · exact h.awayM h1
    · omega
  · obtain ⟨h1, h2⟩ := h.fs x hx
    refine ⟨(ho.block _ (heap_lt h1) h2).trans h1, fun hb => ?_⟩
    rcases hm _ hb with h3 | h3
    · exact h2 h3
    · have := heap_lt h1; omega
theorem M2.sel (h : M2 w0 w B M f P g fs) {gs : List Blk} (hs : ∀ x ∈ gs, x ∈ fs) : M2 w0 w B M f P g gs := ⟨h.reg, h.geB, h.geM, h.r, h.bel, h.awayB, h.awayM, fun x hx => h.fs x (hs x hx)⟩
theorem M2.alloc (h : M2 w0 w B M f P g fs) (cs : Array Value) (t : TypeId) : M2 w0 (w.alloc (.cells cs t)) B M f P g ((w.heap.size, cs, t) :: fs) := by
  have h2 := h.no ((Only.refl No w).alloc (.cells cs t))
  refine ⟨h2.reg, h2.geB, h2.geM, h2.r, h2.bel, h2.awayB, h2.awayM, fun x hx => ?_⟩
  rcases List.mem_cons.1 hx with rfl | hx
  · exact ⟨alloc_new w _, fun hb => by have := (Foot.lt h.r (foot_no ((Only.refl No w).alloc _) h.r hb)).1; exact absurd this (Nat.lt_irrefl _)⟩
  · exact h2.fs x hx
theorem M2.i0 {x : Blk} (h : M2 w0 w B M f P g (x :: fs)) : w.heap[x.1]? = some (.cells x.2.1 x.2.2 (0, 0)) := (h.fs _ (by simp)).1
theorem M2.i1 {x y : Blk} (h : M2 w0 w B M f P g (y :: x :: fs)) : w.heap[x.1]? = some (.cells x.2.1 x.2.2 (0, 0)) := (h.fs _ (by simp)).1
theorem M2.i2 {x y z : Blk} (h : M2 w0 w B M f P g (z :: y :: x :: fs)) : w.heap[x.1]? = some (.cells x.2.1 x.2.2 (0, 0)) := (h.fs _ (by simp)).1
theorem M2.i3 {x y z a : Blk} (h : M2 w0 w B M f P g (a :: z :: y :: x :: fs)) : w.heap[x.1]? = some (.cells x.2.1 x.2.2 (0, 0)) := (h.fs _ (by simp)).1
end

/-- What Set makes of the marks. -/
def setM (f : Nat → Option (Int × Int)) (k : Nat) (p : Int × Int) : Nat → Option (Int × Int) := if okName k then updM f k (some p) else f

set_option maxHeartbeats 1000000 in
theorem mset_no (P k : Nat) (r : Int × Int) (w : World) (hok : okName k = false) (hk : k < 256) :
    Calls Try.prog 13 #[.pointer (some ⟨P, 0, none⟩), .int .u8 (k : Int), posV r] w fun e w' => e = .returned (.bool false) ∧ Only No w w' := by
  unfold posV
  have h1 : k ≠ 96 := by rintro rfl; exact absurd hok (by decide)
  have h2 : ¬ (97 ≤ k ∧ k ≤ 122) := by
    rintro ⟨h2, h3⟩
    simp [okName, h2, h3] at hok
  have g2 : (((k : Int)) == 96) = false := by rw [beq_eq_false_iff_ne]; omega
  by_cases h3 : k < 97
  · have g3 : ¬ (97 : Int) ≤ (k : Int) := by omega
    go_enter Try.func13, Try.ntmps13
    go_wp2
    go_ret
    exact ⟨rfl, (Only.refl _ _).alloc _⟩
  · have h4 : (97 : Int) ≤ (k : Int) := by omega
    have h5 : ¬ (k : Int) ≤ 122 := by omega
    go_enter Try.func13, Try.ntmps13
    go_wp2
    go_ret
    exact ⟨rfl, (Only.refl _ _).alloc _⟩

section
variable {w0 : World} {B M P : Nat} {f g : Nat → Option (Int × Int)} {fs : List Blk}
theorem pset_m2 (k : Nat) (p : Int × Int) (w : World) (h : M2 w0 w B M f P g fs) (hk : k < 256) :
    Calls Try.prog 12 #[.pointer (some ⟨B, 0, none⟩), .int .u8 (k : Int), posV p] w fun e w' => e = .returned (.bool (okName k)) ∧ M2 w0 w' B M (setM f k p) P g fs := by
  cases hok : okName k with
  | false =>
    refine (set_no B k p w hok hk).mono ?_
    rintro e w' ⟨rfl, ho⟩
    unfold setM
    rw [hok]
    exact ⟨rfl, h.no ho⟩
  | true =>
    refine (set_yes B M f k p w h.reg hok).mono ?_
    rintro e w' ⟨rfl, hA, ho⟩
    unfold setM
    rw [hok]
    exact ⟨rfl, h.prog hA ho⟩
theorem dset_m2 (k : Nat) (p : Int × Int) (w : World) (h : M2 w0 w B M f P g fs) (hk : k < 256) :
    Calls Try.prog 13 #[.pointer (some ⟨P, 0, none⟩), .int .u8 (k : Int), posV p] w fun e w' => e = .returned (.bool (okName k)) ∧ M2 w0 w' B M f P (setM g k p) fs := by
  cases hok : okName k with
  | false =>
    refine (mset_no P k p w hok hk).mono ?_
    rintro e w' ⟨rfl, ho⟩
    unfold setM
    rw [hok]
    exact ⟨rfl, h.no ho⟩
  | true =>
    refine (mset_calls w0.heap.size P g k p w h.r hk hok h.bel.size).mono ?_
    rintro e w' ⟨rfl, hr, ho, hm⟩
    unfold setM
    rw [hok]
    exact ⟨rfl, h.ref hr ho hm⟩
theorem pget_m2 (k : Nat) (w : World) (h : M2 w0 w B M f P g fs) (hk : k < 256) :
    Calls Try.prog 16 #[.pointer (some ⟨B, 0, none⟩), .int .u8 (k : Int)] w fun e w' => e = .returned (.tuple #[posV (posOr (f k)), .bool (f k).isSome]) ∧ M2 w0 w' B M f P g fs := by
  refine (Mk.get_calls B M f k w h.reg hk).mono ?_
  rintro e w' ⟨rfl, ho⟩
  exact ⟨rfl, h.no ho⟩
theorem dget_m2 (k : Nat) (w : World) (h : M2 w0 w B M f P g fs) (hk : k < 256) :
    Calls Try.prog 17 #[.pointer (some ⟨P, 0, none⟩), .int .u8 (k : Int)] w fun e w' => e = .returned (.tuple #[posV (posOr (g k)), .bool (g k).isSome]) ∧ M2 w0 w' B M f P g fs := by
  refine (mget_calls w0.heap.size P g k w h.r hk).mono ?_
  rintro e w' ⟨rfl, ho⟩
  exact ⟨rfl, h.no ho⟩
end

theorem mnames_none : Mk.names (fun _ => none) = [] := by
  unfold Mk.names
  rw [List.filter_eq_nil_iff]
  intro a _; simp
/-- Both new. -/
theorem start_m2 {w w1 : World} (hb : Below w.heap.size w w1) : Calls Try.prog 11 #[] w1 fun e w2 => ∃ B M, e = .returned (.pointer (some ⟨B, 0, none⟩)) ∧ M2 w (w2.alloc (.cells #[.slice none 0 0, .slice none 0 0] 35)) B M (fun _ => none) w2.heap.size (fun _ => none) [] := by
  refine (Mk.new_calls w1).mono ?_
  rintro e w2 ⟨rfl, hA, hO⟩
  refine ⟨w1.heap.size + 1, w1.heap.size, rfl, ?_⟩
  obtain ⟨W, hW⟩ : ∃ W, w2.alloc (.cells #[.slice none 0 0, .slice none 0 0] 35) = W := ⟨_, rfl⟩
  have hbox : W.heap[w2.heap.size]? = some (.cells #[.slice none 0 0, .slice none 0 0] 35 (0, 0)) := by rw [← hW]; exact alloc_new _ _
  have hO2 : Only No w2 W := by rw [← hW]; exact (Only.refl No w2).alloc _
  rw [hW]
  have hfoot : ∀ b, Foot W w2.heap.size b → b = w2.heap.size := by
    intro b hb
    rcases hb with rfl | ⟨u1, u2, hu, hb⟩
    · rfl
    · rw [hbox] at hu
      simp at hu
      obtain ⟨rfl, rfl⟩ := hu
      cases hb
  have hBl := heap_lt hA.box
  have hMl := hA.map.lt
  have hs := hb.size
  have hs2 := hO.size
  have hR : RAt W w.heap.size w2.heap.size (fun _ => none) := by
    refine ⟨⟨_, _, fun _ => (0, 0), hbox, ?_, ?_, fun k r hk => (by cases hk), fun b hb => (by cases hb)⟩, by omega⟩
    · rw [mnames_none]; exact World.ownsRow_nil _ _ _ _
    · rw [mnames_none]; exact World.ownsRow_nil _ _ _ _
  refine ⟨hA.of (hO2.block _ hBl (fun h => h)) (hO2.block _ hMl (fun h => h)), by omega, by omega, hR, (hb.trans (hO.below (B := w.heap.size) hs (fun k h => h.elim))).trans (hO2.below (B := w.heap.size) (by omega) (fun k h => h.elim)), fun hb => ?_, fun hb => ?_, fun x hx => by cases hx⟩
  · have := hfoot _ hb; omega
  · have := hfoot _ hb; omega

set_option maxHeartbeats 1000000 in
theorem names_all (B M : Nat) (f : Nat → Option (Int × Int)) (w : World) (h : At w B M f) :
    Calls Try.prog 18 #[.pointer (some ⟨B, 0, none⟩)] w fun e w' => ∃ v, e = .returned v ∧ w'.ownsRow w.heap.size 5 1 v (Mk.names f).length ((Mk.names f).map enc8) ∧ Below w.heap.size w w' := by
  have hBs := heap_lt h.box
  have hMs := h.map.lt
  have hcB := cell_of_one h.box
  have hnk := names_keys f
  obtain ⟨W, hW⟩ : ∃ W, w.alloc (.cells #[.map (some M)] 51) = W := ⟨_, rfl⟩
  have hWs : W.heap.size = w.heap.size + 1 := by rw [← hW]; simp
  have hbox : W.heap[w.heap.size]? = some (.cells #[.map (some M)] 51 (0, 0)) := by rw [← hW]; exact alloc_new _ _
  have hraw : Raw Try.prog 5 W M (fun k => (f k).map posV) := h.map.block (by rw [← hW]; exact Below.heap_alloc _ _ _ hMs)
  have hseq := keys1_stops W.heap.size w.heap.size M _ W hbox hraw (by omega) (by omega) (Nat.le_refl _) 2 (by omega)
  have hbW : Below w.heap.size w W := by rw [← hW]; exact (Below.refl _ w).alloc (Nat.le_refl _) _
  have HW := Lib.hid hWs
  have hle : w.heap.size ≤ W.heap.size := by omega
  have HK := Lib.hid hnk
  clear hWs hbox hraw h hnk
  subst hW
  go_enter Try.func18, Try.ntmps18
  go_wp2_with (go_at_call 24; refine (keys_calls M _).mono ?_; rintro e w' ⟨rfl, rfl⟩)
  refine (sorted_all 28 _ (enters_of Try.func28 (by kernel_rfl) rfl) _ _ _ hseq).mono ?_
  rintro e w' ⟨v, rfl, hrow, hb⟩
  rw [HK.out] at hrow
  go_wp2
  go_ret
  exact ⟨v, rfl, row_lower hrow hle, hbW.trans (hb.mono hle)⟩
end Go.Proofs.Ytlmghmndojfjpaa.Mf
