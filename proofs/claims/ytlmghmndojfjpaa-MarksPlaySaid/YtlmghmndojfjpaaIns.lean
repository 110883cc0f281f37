/- Something put into a row of the call's own, at a place: append(xs[:at:at], append([]T{x}, xs[at:]...)...); names in order. -/
import Derived.Test.YtlmghmndojfjpaaProg
import Derived.Test.YtlmghmndojfjpaaFrame
import Derived.WalkSpells
import Derived.Deep.AppendSrc
import Derived.Deep.DeepAppendWide
import Derived.Lib.AppendZeros
import Derived.Deep.RegionLaw
import Derived.Deep.Upon
namespace Go.Proofs.Ytlmghmndojfjpaa.Ins
open Go.RowKit Go.Proofs.Ytlmghmndojfjpaa.MapRaw Go.Proofs.Ytlmghmndojfjpaa.Frm
set_option linter.unusedVariables false
set_option linter.unusedSimpArgs false

/-! ### names in order -/
def nms (p : Nat → Bool) : List Nat := (List.range 256).filter p
def lo (p : Nat → Bool) (k : Nat) : List Nat := (List.range k).filter p
def hi (p : Nat → Bool) (k : Nat) : List Nat := ((List.range (255 - k)).map fun x => k + 1 + x).filter p
theorem nms_split (p : Nat → Bool) {k : Nat} (hk : k < 256) : nms p = lo p k ++ ((if p k then [k] else []) ++ hi p k) := by
  unfold nms lo hi
  rw [show (256 : Nat) = k + (1 + (255 - k)) by omega, List.range_add, List.filter_append, List.range_add, List.map_append, List.filter_append]
  congr 1
  congr 1
  · simp [List.filter_cons]
  · rw [List.map_map]
    congr 2
    · funext x; simp [Nat.add_assoc]
theorem mem_lo {p : Nat → Bool} {k x : Nat} (h : x ∈ lo p k) : x < k := List.mem_range.1 (List.mem_filter.1 h).1
theorem mem_hi {p : Nat → Bool} {k x : Nat} (h : x ∈ hi p k) : k < x := by
  obtain ⟨y, _, rfl⟩ := List.mem_map.1 (List.mem_filter.1 h).1
  omega
theorem nms_lt {p : Nat → Bool} {x : Nat} (h : x ∈ nms p) : x < 256 := List.mem_range.1 (List.mem_filter.1 h).1
theorem lo_congr {p q : Nat → Bool} {k : Nat} (h : ∀ j, j ≠ k → p j = q j) : lo p k = lo q k :=
  List.filter_congr fun x hx => h x (by have := List.mem_range.1 hx; omega)
theorem hi_congr {p q : Nat → Bool} {k : Nat} (h : ∀ j, j ≠ k → p j = q j) : hi p k = hi q k :=
  List.filter_congr fun x hx => h x (by obtain ⟨y, _, rfl⟩ := List.mem_map.1 hx; omega)
theorem nms_pairwise (p : Nat → Bool) : (nms p).Pairwise (· < ·) := (List.pairwise_lt_range (n := 256)).filter _
theorem nms_length (p : Nat → Bool) : (nms p).length ≤ 256 := Nat.le_trans (List.length_filter_le _ _) (by simp)

/-! ### appends -/
theorem zero_mem {z : Array Value} {q : Nat} {u : Value} (h : u ∈ (Builtin.zeroCells z q).toList) : u ∈ z.toList := by
  unfold Builtin.zeroCells at h
  rw [Array.toList_map, List.mem_map] at h
  obtain ⟨i, hi, rfl⟩ := h
  have hi2 : i < q * z.size := by simpa using hi
  have hz : 0 < z.size := by
    rcases Nat.eq_zero_or_pos z.size with h0 | h0
    · rw [h0] at hi2; omega
    · exact h0
  have hm := Nat.mod_lt i hz
  rw [getElem!_pos z (i % z.size) hm]
  exact Array.getElem_mem_toList hm
theorem mul_le_of {a b c d : Nat} (h1 : a ≤ c) (h2 : b ≤ d) : a * b ≤ c * d := Nat.mul_le_mul h1 h2
theorem fit_le {k bytes : Nat} (h : k ≤ 1099511627776) (hb : bytes ≤ 64) : (k + k / 4 + 192) * bytes ≤ 281474976710656 := by
  have h2 : k + k / 4 + 192 ≤ 1374389534912 := by omega
  have h3 : (k + k / 4 + 192) * bytes ≤ (k + k / 4 + 192) * 64 := Nat.mul_le_mul_left _ hb
  omega
section
variable {w : World} {e t ty : TypeId} {i : TypeInfo} {z : Value} {size bytes : Nat}

/-- Cells that lie at an address. -/
def At (w : World) (A : Option Addr) (xs : List Value) : Prop := xs = [] ∨ ∃ b o, A = some ⟨b, o, none⟩ ∧ b < w.heap.size ∧ ∀ j u, xs[j]? = some u → w.cell? ⟨b, o + j, none⟩ = some u
theorem At.only {S : Nat → Prop} {w w' : World} {A : Option Addr} {xs : List Value} (h : At w A xs) (ho : Only S w w') (hS : ∀ b o, A = some ⟨b, o, none⟩ → ¬ S b) : At w' A xs := by
  rcases h with h | ⟨b, o, rfl, hb, hc⟩
  · exact .inl h
  · exact .inr ⟨b, o, rfl, Nat.lt_of_lt_of_le hb ho.size, fun j u hj => (cell_block (ho.block b hb (hS b o rfl)) _).trans (hc j u hj)⟩
theorem At.no {w w' : World} {A : Option Addr} {xs : List Value} (h : At w A xs) (ho : Only No w w') : At w' A xs := h.only ho (fun _ _ _ h => h)

theorem src_of {A : Option Addr} {n c : Nat} {news : List Value} (ht : Try.prog.underlying t = some (.slice e)) (h : At w A news) (hl : news.length = n * size) (hn : 0 < n) (hs : 0 < size) (h1 : ∀ u ∈ news, u.oneCell' = true) : Src Try.prog size t (.slice A n c) n news w := by
  rcases h with h | ⟨b, o, rfl, hb, hc⟩
  · subst h
    have := Nat.mul_pos hn hs
    simp at hl
    omega
  · refine Src.ofSlice w ht _ _ _ _ hl (fun j u hj => ?_) h1
    have e : (⟨b, o, none⟩ : Addr).add j = ⟨b, o + j, none⟩ := by
      unfold Addr.add
      split
      · subst_vars; rfl
      · rfl
    rw [e]
    exact hc j u hj

set_option maxRecDepth 100000 in
/-- Onto a slice that has no room: a new row. -/
theorem run_fresh (ht : Try.prog.underlying t = some (.slice e)) (hi : Try.prog.info? e = some i) (hz : i.zero = some z) (hsize : i.size = size) (hby : i.bytes = bytes) (hzs : z.cells.size = size) (hs : 0 < size) (hb64 : bytes ≤ 64)
    {A B : Option Addr} {s n c : Nat} {olds news : List Value} (ho : At w A olds) (hol : olds.length = s * size) (hsrc : At w B news) (hnl : news.length = n * size) (h1 : ∀ u ∈ news, u.oneCell' = true) (hn : 0 < n) (hsum : s + n ≤ 1099511627776) :
    ∃ c' w', (Builtin.append_ #[t, t] ty #[.slice A s s, .slice B n c]).run Try.prog w = .ok (.slice (some ⟨w.heap.size, 0, none⟩) (s + n) c') w' ∧ w'.ownsRow w.heap.size e size (.slice (some ⟨w.heap.size, 0, none⟩) (s + n) c') (s + n) (olds ++ news) ∧ Only No w w' ∧ ∃ cur, w'.heap[w.heap.size]? = some (.cells cur e (0, 0)) ∧ ∀ (o : Nat) (u : Value), cur[o]? = some u → u ∈ olds ++ news ∨ u ∈ z.cells.toList := by
  have hold : (Builtin.firstCells i.size s (.slice A s s)).run Try.prog w.drew = .ok olds.toArray w.drew := by
    rcases ho with h | ⟨b, o, rfl, hb, hc⟩
    · subst h
      have h0 : s * size = 0 := hol.symm
      have hs0 : s = 0 := by
        rcases Nat.mul_eq_zero.1 h0 with h | h
        · exact h
        · omega
      subst hs0
      cases A with
      | none => exact run_firstCells_none w.drew i.size 0 0 0
      | some a => exact run_firstCells_some w.drew i.size 0 a 0 0 [] (by simp) (fun j v h => by cases h)
    · rw [hsize]
      refine run_firstCells_some w.drew size s ⟨b, o, none⟩ s s olds hol (fun j v hj => ?_)
      have e : (⟨b, o, none⟩ : Addr).add j = ⟨b, o + j, none⟩ := by
        unfold Addr.add
        split
        · subst_vars; rfl
        · rfl
      rw [e]
      exact hc j v hj
  have hfit : Builtin.nextslicecap (s + n) s * i.bytes ≤ 281474976710656 := by
    refine growslice_fits_wide (need := s + n) (old := s) (by omega) ?_
    rw [hby]
    exact fit_le hsum hb64
  have hrun := run_append_grow_src w t t ty e i z ht hi hz A s s olds hold (.slice B n c) n news (by rw [hsize]; exact src_of ht hsrc hnl hn hs h1) (by omega) (by omega) hfit
  refine ⟨_, _, hrun, ?_, ((Only.refl No w).drew).alloc _, _, alloc_new w.drew _, fun o u hu => ?_⟩
  rotate_left
  · rw [← Array.getElem?_toList, Array.toList_append] at hu
    have hm := List.mem_of_getElem? hu
    rcases List.mem_append.1 hm with h | h
    · exact .inl h
    · right
      exact zero_mem h
  have hcap := grownCap_ge w (s + n) s e
  have hmax := grownCap_le_maxLen w (s + n) s e (by unfold maxLen; omega)
  have hlen : olds.length + news.length = (s + n) * size := by rw [hol, hnl, Nat.add_mul]
  refine ⟨by rw [List.length_append]; exact hlen, .inr ⟨w.heap.size, _, _, rfl, Nat.le_refl _, alloc_new w.drew _, hcap, hmax, ?_, ?_⟩⟩
  · have hz0 : (Builtin.zeroCells z.cells (grownCap w (s + n) s e - (s + n))).size = (grownCap w (s + n) s e - (s + n)) * size := by simp [Builtin.zeroCells, hzs]
    rw [Array.size_append, hz0, List.size_toArray, List.length_append, hlen, ← Nat.add_mul]
    congr 1
    omega
  · rw [Array.toList_append, List.take_append_of_le_length (by simp; omega)]
    exact List.take_of_length_le (by simp; omega)

/-- A row of one, and what lies behind it. -/
theorem run_one (ht : Try.prog.underlying t = some (.slice e)) (hi : Try.prog.info? e = some i) (hz : i.zero = some z) (hsize : i.size = size) (hby : i.bytes = bytes) (hzs : z.cells.size = size) (hs : 0 < size) (hb64 : bytes ≤ 64)
    {g : Nat} {cs : Array Value} (hg : w.heap[g]? = some (.cells cs e (0, 0))) (hcs : cs.size = size) {B : Option Addr} {n c : Nat} {news : List Value} (hsrc : At w B news) (hnl : news.length = n * size) (h1 : ∀ u ∈ news, u.oneCell' = true) (hnil : B = none → c = 0) (hsum : 1 + n ≤ 1099511627776) :
    ∃ b c' w', (Builtin.append_ #[t, t] ty #[.slice (some ⟨g, 0, none⟩) 1 1, .slice B n c]).run Try.prog w = .ok (.slice (some ⟨b, 0, none⟩) (1 + n) c') w' ∧ At w' (some ⟨b, 0, none⟩) (cs.toList ++ news) ∧ Only No w w' := by
  have ho : At w (some ⟨g, 0, none⟩) cs.toList := .inr ⟨g, 0, rfl, heap_lt hg, fun j u hj => by
    simp only [World.cell?, hg, Nat.zero_add]
    simpa using hj⟩
  rcases Nat.eq_zero_or_pos n with h0 | hp
  · subst h0
    have hnews : news = [] := List.length_eq_zero_iff.1 (by omega)
    subst hnews
    refine ⟨g, 1, w, ?_, by rw [List.append_nil]; exact ho, Only.refl _ _⟩
    exact run_append_nothing w t t ty e i ht hi (some ⟨g, 0, none⟩) 1 1 (Nat.le_refl _) (.slice B 0 c) (by
      cases B with
      | none => rw [hnil rfl]; exact Src.ofNil w ht 0
      | some a => exact Src.ofSlice w ht a 0 c [] (by simp) (fun j u h => by cases h) (fun u h => by cases h))
  · obtain ⟨c', w', hr, hown, hO, _⟩ := run_fresh (ty := ty) ht hi hz hsize hby hzs hs hb64 ho (by rw [Array.length_toList, hcs]; omega) hsrc hnl h1 hp hsum (c := c)
    refine ⟨_, _, _, hr, .inr ⟨_, 0, rfl, ?_, fun j u hj => ?_⟩, hO⟩
    · exact (hown.lt _ rfl).2
    · have hj2 := hown.cellAt j (by have h9 := (List.getElem?_eq_some_iff.1 hj).1; have := hown.1; omega)
      rw [Nat.zero_add, hj2]; exact hj
end

/-- An append of which it is known what it comes to. -/
theorem step_run {w : World} {ops : Array Oper} {o : Oper} {a : Act} {K : Act → World → Prop} {Q : Exit → Act → World → Prop} {E : Prop} (hgd : o.guard = none) (s x : Operand) {t tn : TypeId} (ho : o.op = .call { callee := .builtin .append, args := #[s, x], argTypes := #[t, tn] })
    (v xv : Value) (hs : a.eval s = v) (hx : a.eval x = xv) (v' : Value) (w' : World) (hr : (Builtin.append_ #[t, tn] o.type #[v, xv]).run Try.prog w = .ok v' w') (h : K (a.put o.dst v') w') : if Region.wanted o (yielded ops a.tmps) = true then Oper.wp Try.prog o a w K Q else E := by
  have hw : Region.wanted o (yielded ops a.tmps) = true := by simp [Region.wanted, hgd]
  rw [if_pos hw]
  exact Lib.wp_append_run w s x t tn ho v xv hs hx v' w' hr h

/-! ### slices of a row -/
section
variable {t e : TypeId} {size : Nat}
theorem add_zero (g : Nat) : (⟨g, 0, none⟩ : Addr).add 0 = ⟨g, 0, none⟩ := by
  unfold Addr.add
  split
  · subst_vars; rfl
  · rfl
theorem add_any (g o k : Nat) : (⟨g, o, none⟩ : Addr).add k = ⟨g, o + k, none⟩ := by
  unfold Addr.add
  split
  · subst_vars; rfl
  · rfl
theorem slice_head (ht : Try.prog.underlying t = some (.slice (Try.prog.elem t))) (hsz : ∀ w, (sizeOf (Try.prog.elem t)).run Try.prog w = .ok size w) {A : Option Addr} (hA : A = none ∨ ∃ g, A = some ⟨g, 0, none⟩) {n c T : Nat} (hT : T ≤ c) (w : World) :
    (Instr.slice t (.slice A n c) none (some (.int .i64 (T : Int))) (some (.int .i64 (T : Int)))).run Try.prog w = .ok (.slice A T T) w := by
  rw [run_slice_hm (P := Try.prog) w t A n c ht .i64 .i64 (T : Int) (T : Int) (by omega) (by omega) (by omega), hsz]
  simp only [Result.andThen_ok, sliced, Int.toNat_natCast, Nat.sub_zero, Nat.zero_mul]
  rcases hA with rfl | ⟨g, rfl⟩
  · simp
  · simp [add_zero]
theorem slice_tail (ht : Try.prog.underlying t = some (.slice (Try.prog.elem t))) (hsz : ∀ w, (sizeOf (Try.prog.elem t)).run Try.prog w = .ok size w) {A : Option Addr} (hA : A = none ∨ ∃ g, A = some ⟨g, 0, none⟩) {n c T : Nat} (hT : T ≤ n) (hn : n ≤ c) (hnil : A = none → c = 0) :
    ∃ B, (∀ w, (Instr.slice t (.slice A n c) (some (.int .i64 (T : Int))) none none).run Try.prog w = .ok (.slice B (n - T) (c - T)) w) ∧ (B = none → c - T = 0) ∧ (∀ w xs, xs.length = n * size → At w A xs → At w B (xs.drop (T * size))) ∧ (∀ b o, B = some ⟨b, o, none⟩ → ∃ o', A = some ⟨b, o', none⟩) := by
  refine ⟨if c = T then A else A.map (·.add (T * size)), fun w => ?_, fun h => ?_, fun w xs hl hx => ?_, fun b o h => ?_⟩
  · rw [run_slice_l (P := Try.prog) w t A n c ht .i64 (T : Int) (by omega) (by omega), hsz]
    simp [sliced]
  · split at h
    · omega
    · cases A with
      | none => rw [hnil rfl]; omega
      | some a => cases h
  · by_cases hc : c = T
    · rw [if_pos hc]
      have : xs.drop (T * size) = [] := List.drop_of_length_le (by rw [hl, show n = T by omega]; exact Nat.le_refl _)
      rw [this]; exact .inl rfl
    · rw [if_neg hc]
      rcases hx with h | ⟨b, o, rfl, hb, hcell⟩
      · subst h; left; simp
      · right
        refine ⟨b, o + T * size, by rw [Option.map_some, add_any], hb, fun j u hj => ?_⟩
        rw [List.getElem?_drop] at hj
        rw [Nat.add_assoc]
        exact hcell _ _ hj
  · by_cases hc : c = T
    · rw [if_pos hc] at h; exact ⟨o, h⟩
    · rw [if_neg hc] at h
      rcases hA with rfl | ⟨g, rfl⟩
      · cases h
      · rw [Option.map_some, add_any] at h
        cases h; exact ⟨0, rfl⟩
end
end Go.Proofs.Ytlmghmndojfjpaa.Ins
