/- Ranging over a map keyed by bytes, step by step; and maps.Clone of one. -/
import Derived.Test.YtlmghmndojfjpaaFrame
import Derived.Laws.Externs
namespace Go.Proofs.Ytlmghmndojfjpaa.MapRaw
open Go.Maps (Keyed has)
open Go.RowKit Go.Proofs.Ytlmghmndojfjpaa.Frm

theorem step_left {lt : Lit → Bool} {b : Bool} {l : Lit} (h : lt l = b) (j k : Nat) (hl : l = .int .u8 (j : Int) := by rfl) : (lt l && !l.sameKey (.int .u8 (k : Int))) = (b && j != k) := by
  rw [h, hl, sameKey_int]
  congr 1
  rw [Bool.eq_iff_iff, Bool.not_eq_true', decide_eq_false_iff_not, bne_iff_ne]
  omega

section
variable {P : Program} {K : TypeId} {w w' : World} {C r cnt : Nat} {f : Nat → Option Value} {left : Nat → Bool}

/-- Block r is an iterator over the map C, which holds f; left: which keys are still to come. -/
def Rng (P : Program) (K : TypeId) (w : World) (C r : Nat) (f : Nat → Option Value) (left : Nat → Bool) (cnt : Nat) : Prop :=
  ∃ lt, w.ranges P K rawR C r 256 (datum f) lt cnt ∧ ∀ k : Nat, k < 256 → lt (.int .u8 (k : Int)) = left k

theorem Rng.left_eq (h : Rng P K w C r f left cnt) : w.rangeLeft C r = cnt := by
  obtain ⟨lt, h, _⟩ := h
  exact h.left_eq
theorem Rng.lt (h : Rng P K w C r f left cnt) : r < w.heap.size ∧ C < w.heap.size := by
  obtain ⟨lt, h, _⟩ := h
  exact ⟨h.lt, h.owns.lt⟩
theorem Rng.only {S : Nat → Prop} (h : Rng P K w C r f left cnt) (ho : Only S w w') (hC : ¬ S C) (hr : ¬ S r) : Rng P K w' C r f left cnt := by
  obtain ⟨lt, h, hl⟩ := h
  refine ⟨lt, ?_, hl⟩
  have h1 := h.owns.lt
  have h2 := h.lt
  obtain ⟨es, clock, since, seen, c0, hb, F, hs, hD, hr', rest⟩ := h
  exact ⟨es, clock, since, seen, c0, (ho.block C h1 hC).trans hb, F, hs, hD, (ho.block r h2 hr).trans hr', rest⟩
theorem Rng.iter (h : Rng P K w C r f left cnt) : ∃ m s seen c, w.heap[r]? = some (.mapIter m s seen c) := by
  obtain ⟨lt, ⟨es, clock, since, seen, c0, hb, F, hs, hD, hr', rest⟩, hl⟩ := h
  exact ⟨_, _, _, _, hr'⟩

theorem Raw.range {t e : TypeId} (h : Raw P K w C f) (hk : P.underlying K = some (.int .u8)) (ht : P.underlying t = some (.map K e)) :
    ∃ w', (Instr.range t (.map (some C))).run P w = .ok (.pointer (some ⟨w.heap.size, 0, none⟩)) w' ∧ Rng P K w' C w.heap.size f (fun k => (f k).isSome) (Maps.size (datum f)) ∧ Below w.heap.size w w' ∧ w'.heap.size = w.heap.size + 1 := by
  obtain ⟨w', h1, h2, h3, h4⟩ := h.owns.range (Maps.int_keyed hk) ht
  exact ⟨w', h1, ⟨_, h2, fun k hk => has_datum hk⟩, ⟨h3.os, h3.tape, h3.output, h3.size, fun k hk => h3.block k hk (by simp)⟩, h4⟩

theorem wpList_range_raw {ops : Array Oper} {rest : List Oper} {o : Oper} {a : Act} {Q : Exit → Act → World → Prop} (w : World) (hg : o.guard = none) (m : Operand) (t : TypeId) (hop : o.op = Op.range t m) (e : TypeId) (hk : P.underlying K = some (.int .u8)) (ht : P.underlying t = some (.map K e))
    (hm : a.eval m = .map (some C)) (h : Raw P K w C f)
    (hK : ∀ w', Rng P K w' C w.heap.size f (fun k => (f k).isSome) (Maps.size (datum f)) → Below w.heap.size w w' → w'.heap.size = w.heap.size + 1 → wpList P ops Q rest (a.put o.dst (.pointer (some ⟨w.heap.size, 0, none⟩))) w') :
    wpList P ops Q (o :: rest) a w := by
  refine wpList_plain hg fun K' hK' => ?_
  obtain ⟨w', hrun, r1, r2, r3⟩ := h.range hk ht
  unfold Oper.wp
  simp [execOp, hop, hm, hrun, Result.andThen]
  exact hK' _ _ (hK w' r1 r2 r3)

set_option maxRecDepth 100000 in
theorem wpList_next_raw {ops : Array Oper} {rest : List Oper} {o : Oper} {a : Act} {Q : Exit → Act → World → Prop} (w : World) (hg : o.guard = none) (it : Operand) (hop : o.op = Op.next it false) (hk : P.underlying K = some (.int .u8))
    (hit : a.eval it = .pointer (some ⟨r, 0, none⟩)) (h : Rng P K w C r f left cnt)
    (hDone : cnt = 0 → (∀ k : Nat, k < 256 → left k = false) → wpList P ops Q rest (a.put o.dst (.tuple #[.bool false])) w)
    (hMore : ∀ (k : Nat) (v : Value) (w' : World) (cnt' : Nat), k < 256 → left k = true → f k = some v → Rng P K w' C r f (fun j => left j && j != k) cnt' → cnt' < cnt → Only (fun b => b = r) w w' → w'.heap.size = w.heap.size →
      (Instr.entry (.pointer (some ⟨r, 0, none⟩))).run P w' = .ok (.tuple #[.int .u8 (k : Int), v]) w' → wpList P ops Q rest (a.put o.dst (.tuple #[.bool true, .int .u8 (k : Int), v])) w') :
    wpList P ops Q (o :: rest) a w := by
  obtain ⟨lt, hr, hl⟩ := h
  refine wpList_next_ranges w hg it hop K (Maps.int_keyed hk) rawR (Value.int .u8) (fun v : Value => v)
    (fun key kl hkey => by obtain ⟨x, rfl, _⟩ := Maps.keyOf_int_inv hk hkey; exact ⟨x, rfl⟩) (fun v y _ => ⟨v, rfl⟩) C r 256 (datum f) lt cnt hit hr
    (fun h0 hall => hDone h0 (fun k hk => (hl k hk).symm.trans (hall _))) ?_
  intro x c kl y w' cnt' hkey hlk hRv hat hrg hcnt hgr hsz hen
  obtain ⟨x', ex, rfl, hwx⟩ := Maps.keyOf_int_inv hk hkey
  cases ex
  simp only [Lit.wf, Bool.and_eq_true, decide_eq_true_eq] at hwx
  have m1 : IntKind.u8.min = 0 := by decide
  have m2 : IntKind.u8.max = 255 := by decide
  obtain ⟨k, rfl⟩ : ∃ k : Nat, x = (k : Int) := ⟨x.toNat, by omega⟩
  have hk256 : k < 256 := by omega
  have hy : y.1 = .held c := by
    have : rawR c = some (.held c, []) := rfl
    rw [this] at hRv
    rw [← Option.some.inj hRv]
  have hf : f k = some c := by
    have h1 := hat (.lit (.bool true))
    rw [atKey_datum hk256, hy] at h1
    cases hfk : f k with
    | none => rw [hfk] at h1; cases h1
    | some u =>
      rw [hfk] at h1
      simp only [DataW.held.injEq] at h1
      rw [h1]
  refine hMore k c w' cnt' hk256 ((hl k hk256).symm.trans hlk) hf ⟨_, hrg, fun j hj => ?_⟩ hcnt ?_ hsz hen
  · exact step_left (hl j hj) j k
  · exact (Only.of_grownBy hgr).mono (fun b _ e => (Option.some.inj e).symm)

theorem run_clone {es : Array MapEntry} {clock : Nat} (t : TypeId) (w : World) {b : Nat} (hb : w.heap[b]? = some (.map es clock)) :
    (Extern.MapsClone.clone #[.iface t (.map (some b))]).run P w = .ok (.iface t (.map (some w.heap.size))) (w.alloc (.map es clock)) := by
  have e : Extern.MapsClone.clone #[.iface t (.map (some b))] = (getObj b >>= fun o => match o with
      | .map entries clock => (newObj (.map entries clock) >>= fun n => pure (.iface t (.map (some n))))
      | _ => stuck "maps.clone: a map expected") := rfl
  rw [e]
  simp [MapKept.run_getObj_map hb, Result.andThen, go_sem]
theorem run_assert_map (w : World) (t xT k e : TypeId) (v : Value) (h : P.underlying t = some (.map k e)) : (Instr.typeAssert (.iface t v) xT t false).run P w = .ok v w := by
  simp [Instr.typeAssert, run_underlying h, go_sem, Result.andThen]
theorem run_equalIn_map (w : World) (d : Nat) (t k e : TypeId) (p : Option Nat) (h : P.underlying t = some (.map k e)) :
    (Op.equalIn (d + 1) t (.map p) (.map none)).run P w = .ok p.isNone w := by
  cases p <;> simp [Op.equalIn, run_underlying h]
theorem run_eql_map (w : World) (t k e : TypeId) (p : Option Nat) (h : P.underlying t = some (.map k e)) : (binOp .eql t (.map p) (.map none)).run P w = .ok (.bool p.isNone) w := by
  simp only [binOp]
  simp [show Op.equal t (.map p) (.map none) = Op.equalIn (9999 + 1) t (.map p) (.map none) from rfl, run_equalIn_map w 9999 t k e p h]
end
end Go.Proofs.Ytlmghmndojfjpaa.MapRaw
