/- Maps keyed by bytes, as functions from bytes to raw values: what making, storing, deleting, looking up, cloning and ranging do to them; no condition beyond the key type being uint8. -/
import Derived.WalkKit
import Derived.Maps.Ext
import Derived.Maps.OwnSet
import Derived.Maps.RangeWalk
import Derived.Maps.Keyed
import Derived.Below
namespace Go.Proofs.Ytlmghmndojfjpaa.MapRaw
open Go.Maps (Keyed has)
open Go.WideAt Go.WideMaps Go.ChangeMaps
open Go.RowKit

/-- A raw value stands for itself. -/
def rawR (v : Value) : Option (DataW Value × List MemPlace) := some (.held v, [])

/-- The entries of a function on bytes, in order. -/
def ents (f : Nat → Option Value) : List (Lit × DataW Value) := (List.range 256).filterMap fun k => (f k).map fun v => (.int .u8 (k : Int), .held v)
def datum (f : Nat → Option Value) : DataW Value := .map (ents f)

theorem key_wf {k : Nat} (hk : k < 256) : (Lit.int .u8 (k : Int)).wf = true := by
  simp only [Lit.wf, Bool.and_eq_true, decide_eq_true_eq]
  have h1 : IntKind.u8.min = 0 := by decide
  have h2 : IntKind.u8.max = 255 := by decide
  omega

theorem mem_ents {f : Nat → Option Value} {p : Lit × DataW Value} : p ∈ ents f ↔ ∃ k v, k < 256 ∧ f k = some v ∧ p = (.int .u8 (k : Int), .held v) := by
  unfold ents
  rw [List.mem_filterMap]
  constructor
  · rintro ⟨k, hk, h⟩
    cases hf : f k with
    | none => rw [hf] at h; simp at h
    | some v => rw [hf] at h; exact ⟨k, v, by simpa using hk, hf, by simpa using h.symm⟩
  · rintro ⟨k, v, hk, hf, rfl⟩
    exact ⟨k, by simpa using hk, by rw [hf]; rfl⟩

theorem ents_rising (f : Nat → Option Value) : (ents f).Pairwise (fun p q => p.1.before q.1 = true) := by
  unfold ents
  rw [List.pairwise_filterMap]
  refine List.Pairwise.imp ?_ (List.pairwise_lt_range (n := 256))
  intro a b hab x hx y hy
  simp only [Option.map_eq_some_iff] at hx hy
  obtain ⟨v, _, rfl⟩ := hx
  obtain ⟨u, _, rfl⟩ := hy
  simpa [Lit.before] using hab

theorem canon (f : Nat → Option Value) : Maps.Canon (datum f) := by
  refine ⟨ents f, rfl, ents_rising f, ?_⟩
  intro p hp
  obtain ⟨k, v, hk, _, rfl⟩ := mem_ents.1 hp
  trivial

theorem ents_length (f : Nat → Option Value) : (ents f).length ≤ 256 := by
  have := List.length_filterMap_le (fun k => (f k).map fun v => ((.int .u8 (k : Int) : Lit), (.held v : DataW Value))) (List.range 256)
  simpa [ents] using this

theorem sameKey_int {a b : Int} : (Lit.int .u8 a).sameKey (.int .u8 b) = decide (a = b) := by
  simp [Lit.sameKey]

theorem find_ents {f : Nat → Option Value} {k : Nat} (hk : k < 256) : (ents f).find? (fun p => p.1.sameKey (.int .u8 (k : Int))) = (f k).map fun v => (.int .u8 (k : Int), .held v) := by
  cases hf : f k with
  | none =>
    rw [Option.map_none, List.find?_eq_none]
    intro p hp
    obtain ⟨j, v, hj, hfj, rfl⟩ := mem_ents.1 hp
    simp only [sameKey_int, decide_eq_true_eq]
    intro e
    have : j = k := by omega
    subst this
    rw [hf] at hfj
    cases hfj
  | some v =>
    rw [Option.map_some]
    have hm : ((.int .u8 (k : Int) : Lit), (.held v : DataW Value)) ∈ ents f := mem_ents.2 ⟨k, v, hk, hf, rfl⟩
    cases hq : (ents f).find? (fun p => p.1.sameKey (.int .u8 (k : Int))) with
    | none =>
      have := List.find?_eq_none.1 hq _ hm
      simp [sameKey_int] at this
    | some q =>
      have hq1 := List.find?_some hq
      obtain ⟨j, u, hj, hfj, rfl⟩ := mem_ents.1 (List.mem_of_find?_eq_some hq)
      simp only [sameKey_int, decide_eq_true_eq] at hq1
      have : j = k := by omega
      subst this
      rw [hf] at hfj
      cases hfj
      rfl

theorem atKey_datum {f : Nat → Option Value} {k : Nat} (hk : k < 256) (z : DataW Value) : (datum f).atKey (.int .u8 (k : Int)) z = match f k with | some v => .held v | none => z := by
  unfold datum DataW.atKey
  simp only
  rw [find_ents hk]
  cases f k <;> rfl

theorem has_datum {f : Nat → Option Value} {k : Nat} (hk : k < 256) : has (datum f) (.int .u8 (k : Int)) = (f k).isSome := by
  have h := find_ents (f := f) hk
  unfold datum
  rw [Maps.has_eq, Bool.eq_iff_iff, List.any_eq_true]
  constructor
  · rintro ⟨p, hp, hs⟩
    obtain ⟨j, v, hj, hfj, rfl⟩ := mem_ents.1 hp
    simp only [sameKey_int, decide_eq_true_eq] at hs
    have : j = k := by omega
    subst this
    rw [hfj]; rfl
  · intro hf
    obtain ⟨v, hv⟩ := Option.isSome_iff_exists.1 hf
    exact ⟨_, mem_ents.2 ⟨k, v, hk, hv, rfl⟩, by simp [sameKey_int]⟩

/-- Other keys are in no such map. -/
theorem has_other {f : Nat → Option Value} {kl : Lit} (h : ∀ k : Nat, k < 256 → kl ≠ .int .u8 (k : Int)) : has (datum f) kl = false := by
  unfold datum
  rw [Maps.has_eq, Bool.eq_false_iff]
  intro hh
  obtain ⟨p, hp, hs⟩ := List.any_eq_true.1 hh
  obtain ⟨k, v, hk, _, rfl⟩ := mem_ents.1 hp
  exact h k hk (WideAt.sameKey_eq hs).symm

theorem key_cases (kl : Lit) : (∃ k : Nat, k < 256 ∧ kl = .int .u8 (k : Int)) ∨ ∀ k : Nat, k < 256 → kl ≠ .int .u8 (k : Int) := by
  by_cases h : ∃ k : Nat, k < 256 ∧ kl = .int .u8 (k : Int)
  · exact .inl h
  · exact .inr fun k hk e => h ⟨k, hk, e⟩

/-- Two canonical maps over the same bytes are one. -/
theorem datum_ext {D : DataW Value} (hc : Maps.Canon D) {f : Nat → Option Value} (hh : ∀ k : Nat, k < 256 → has D (.int .u8 (k : Int)) = (f k).isSome) (ho : ∀ kl : Lit, (∀ k : Nat, k < 256 → kl ≠ .int .u8 (k : Int)) → has D kl = false)
    (ha : ∀ (k : Nat) v z, k < 256 → f k = some v → D.atKey (.int .u8 (k : Int)) z = .held v) : D = datum f := by
  refine Maps.ext hc (canon f) (fun kl => ?_) (fun kl z hk => ?_)
  · rcases key_cases kl with ⟨k, hk, rfl⟩ | h
    · rw [hh k hk, has_datum hk]
    · rw [ho kl h, has_other h]
  · rcases key_cases kl with ⟨k, hlt, rfl⟩ | h
    · rw [hh k hlt] at hk
      obtain ⟨v, hv⟩ := Option.isSome_iff_exists.1 hk
      rw [ha k v z hlt hv, atKey_datum hlt, hv]
    · rw [ho kl h] at hk
      cases hk

def upd (f : Nat → Option Value) (k : Nat) (v : Option Value) : Nat → Option Value := fun j => if j = k then v else f j

theorem isMap (f : Nat → Option Value) : Maps.IsMap (datum f) := ⟨_, rfl⟩

section
variable {P : Program} {K : TypeId} {w w' : World} {b : Nat} {f : Nat → Option Value}

/-- Block b is the map f. -/
def Raw (P : Program) (K : TypeId) (w : World) (b : Nat) (f : Nat → Option Value) : Prop := ∃ n, w.ownsMap P K rawR b n (datum f)

theorem Raw.owns (h : Raw P K w b f) : w.ownsMap P K rawR b 256 (datum f) := by
  obtain ⟨n, es, clock, hb, F, hs, hD⟩ := h
  refine ⟨es, clock, hb, F, ?_, hD⟩
  have e : es.size = (ents f).length := by
    have h2 : ents f = (es.toList.map (WideElems.rg P K rawR)).foldr DataW.insert [] := by
      have := hD
      unfold datum at this
      exact DataW.map.inj this
    rw [h2, length_sorted]
    simp
  rw [e]
  exact ents_length f

theorem Raw.lt (h : Raw P K w b f) : b < w.heap.size := h.owns.lt
theorem Raw.block (h : Raw P K w b f) (e : w'.heap[b]? = w.heap[b]?) : Raw P K w' b f := by
  obtain ⟨n, es, clock, hb, r⟩ := h
  exact ⟨n, es, clock, e.trans hb, r⟩
theorem Raw.is_map (h : Raw P K w b f) : ∃ es clock, w.heap[b]? = some (.map es clock) := by
  obtain ⟨n, es, clock, hb, _⟩ := h
  exact ⟨es, clock, hb⟩

theorem raw_made (w : World) : Raw P K (w.alloc (.map #[] 0)) w.heap.size (fun _ => none) := by
  refine ⟨0, ?_⟩
  have h := World.ownsMap_made w P K rawR
  have e : datum (fun _ => none) = (.map [] : DataW Value) := by
    have : ents (fun _ => none) = [] := List.filterMap_eq_nil_iff.2 (fun _ _ => rfl)
    unfold datum
    rw [this]
  rw [e]
  exact h

theorem keyOf_byte (hk : P.underlying K = some (.int .u8)) {k : Nat} (h : k < 256) : keyOf P K (Value.int .u8 (k : Int)) = some (Lit.int .u8 (k : Int)) :=
  Maps.keyOf_int_mk hk (key_wf h)

theorem datum_put (f : Nat → Option Value) {k : Nat} (hk : k < 256) (v : Value) (hc : Maps.Canon ((datum f).put (.int .u8 (k : Int)) (.held v))) :
    (datum f).put (.int .u8 (k : Int)) (.held v) = datum (upd f k (some v)) := by
  refine datum_ext hc (fun j hj => ?_) (fun kl h => ?_) (fun j u z hj hu => ?_)
  · by_cases e : j = k
    · subst e
      rw [Maps.has_put_same (isMap f) (by trivial)]
      simp [upd]
    · rw [Maps.has_put_other (by intro e2; apply e; have := (Lit.int.inj e2).2; omega), has_datum hj]
      simp [upd, e]
  · rw [Maps.has_put_other (h k hk), has_other h]
  · by_cases e : j = k
    · subst e
      rw [Maps.atKey_put_same (isMap f) (by trivial)]
      simp [upd] at hu
      rw [hu]
    · rw [Maps.atKey_put_other (by intro e2; apply e; have := (Lit.int.inj e2).2; omega), atKey_datum hj]
      simp [upd, e] at hu
      rw [hu]

theorem datum_del (f : Nat → Option Value) {k : Nat} (hk : k < 256) (hc : Maps.Canon ((datum f).del (.int .u8 (k : Int)))) :
    (datum f).del (.int .u8 (k : Int)) = datum (upd f k none) := by
  refine datum_ext hc (fun j hj => ?_) (fun kl h => ?_) (fun j u z hj hu => ?_)
  · by_cases e : j = k
    · subst e
      rw [Maps.has_del_same]
      simp [upd]
    · rw [Maps.has_del_other (by intro e2; apply e; have := (Lit.int.inj e2).2; omega), has_datum hj]
      simp [upd, e]
  · rw [Maps.has_del_other (h k hk), has_other h]
  · by_cases e : j = k
    · subst e
      simp [upd] at hu
    · rw [Maps.atKey_del_other (by intro e2; apply e; have := (Lit.int.inj e2).2; omega), atKey_datum hj]
      simp [upd, e] at hu
      rw [hu]

/-- A store. -/
theorem Raw.store {t e : TypeId} (h : Raw P K w b f) (hk : P.underlying K = some (.int .u8)) (ht : P.underlying t = some (.map K e)) {k : Nat} (hlt : k < 256) (v : Value) :
    ∃ w', (Instr.mapUpdate t (.map (some b)) (.int .u8 (k : Int)) v).run P w = .ok () w' ∧ Raw P K w' b (upd f k (some v)) ∧ w.mapTurned w' b := by
  obtain ⟨w', h1, h2, h3⟩ := h.owns.store (Maps.int_keyed hk) ht (by unfold maxLen; omega) (keyOf_byte hk hlt) (val := v) (d := .held v) (ps := []) rfl
  refine ⟨w', h1, ⟨257, ?_⟩, h3⟩
  rw [← datum_put f hlt v (h2.canon (Maps.int_keyed hk))]
  exact h2

/-- A delete. -/
theorem Raw.drop {t e : TypeId} (h : Raw P K w b f) (hk : P.underlying K = some (.int .u8)) (ht : P.underlying t = some (.map K e)) {k : Nat} (hlt : k < 256) (ty : TypeId) :
    ∃ w', (Builtin.delete_ #[t, K] ty #[.map (some b), .int .u8 (k : Int)]).run P w = .ok (.tuple #[]) w' ∧ Raw P K w' b (upd f k none) ∧ w.mapTurned w' b := by
  obtain ⟨w', h1, h2, h3⟩ := h.owns.drop (Maps.int_keyed hk) ht (keyOf_byte hk hlt) ty
  refine ⟨w', h1, ⟨256, ?_⟩, h3⟩
  rw [← datum_del f hlt (h2.canon (Maps.int_keyed hk))]
  exact h2

/-- A look-up, with ok. -/
theorem Raw.look {t e : TypeId} (h : Raw P K w b f) (hk : P.underlying K = some (.int .u8)) (ht : P.underlying t = some (.map K e)) {z : Value} (hz : (zeroValue e).run P w = .ok z w) {k : Nat} (hlt : k < 256) :
    (Instr.lookup t (.map (some b)) (.int .u8 (k : Int)) true).run P w = .ok (.tuple #[(f k).getD z, .bool (f k).isSome]) w := by
  obtain ⟨v, ps, h1, h2⟩ := h.owns.look_ok (Maps.int_keyed hk) ht hz (zd := .held z) (zp := []) rfl (keyOf_byte hk hlt)
  rw [has_datum hlt] at h1
  rw [atKey_datum hlt] at h2
  rw [h1]
  have e : v = (f k).getD z := by
    unfold rawR at h2
    cases hf : f k with
    | none =>
      rw [hf] at h2
      simp only [Option.some.injEq, Prod.mk.injEq, DataW.held.injEq] at h2
      rw [h2.1]; rfl
    | some u =>
      rw [hf] at h2
      simp only [Option.some.injEq, Prod.mk.injEq, DataW.held.injEq] at h2
      rw [h2.1]; rfl
  rw [e]

theorem turned_block (h : w.mapTurned w' b) {k : Nat} (hk : k ≠ b) : w'.heap[k]? = w.heap[k]? := by
  obtain ⟨es, clock, es', clock', hb, rfl⟩ := h
  exact heap_setBlock_other hb _ hk
theorem turned_size (h : w.mapTurned w' b) : w'.heap.size = w.heap.size := by
  obtain ⟨es, clock, es', clock', hb, rfl⟩ := h
  simp [ChangeMaps.setBlock]
end
end Go.Proofs.Ytlmghmndojfjpaa.MapRaw
