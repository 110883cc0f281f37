/- RegsNames: which names may be written to by whom, and which are read; proved for every input, under no condition. -/
import Derived.Test.YtgdlplkeafeblaaRows
import Derived.Test.YtgdlplkeafeblaaRegsKnown
import Derived.WalkKit
import Derived.ProofKit
import Derived.OpenShut
import Derived.ChangeOld
import Derived.SizedLaws
namespace Go.Proofs.Ytgdlplkeafeblaa.regsNames
open Go.RowKit Go.Shelf Go.Proofs.Ytgdlplkeafeblaa.MapRaw Go.Proofs.Ytgdlplkeafeblaa.Frm Go.Proofs.Ytgdlplkeafeblaa.Lns Go.Proofs.Ytgdlplkeafeblaa.Rg
set_option linter.unusedVariables false
set_option linter.unusedSimpArgs false
attribute [local go_sem ↓] Go.wp_at_zero Go.wp_at_succ

theorem other {w w' : World} {B1 M1 B2 M2 : Nat} {f1 f2 : Nat → Option Reg} (h2 : At w B2 M2 f2) (h1 : At w B1 M1 f1) (hne : M2 ≠ M1) (ho : Only (fun b => b = M1) w w') : At w' B2 M2 f2 := by
  refine h2.only ho (fun b _ e => by subst e; exact h1.bare) (fun e => ?_) hne
  obtain ⟨g, hg, _⟩ := h1.map
  obtain ⟨es, clock, h3⟩ := hg.is_map
  rw [← e, h2.box] at h3
  cases h3
theorem regCell {w w' : World} {B M p : Nat} {f : Nat → Option Reg} {o : Obj} (h : At w B M f) (ho : Only (fun b => b = M) w w') {cs : Array Value} {t : TypeId} {fr : Nat × Nat} (hp : w.heap[p]? = some (.cells cs t fr)) : w'.heap[p]? = some (.cells cs t fr) := by
  refine (ho.block p (heap_lt hp) (fun e => ?_)).trans hp
  obtain ⟨g, hg, _⟩ := h.map
  obtain ⟨es, clock, h3⟩ := hg.is_map
  rw [← e, hp] at h3
  cases h3

theorem keep {w w' : World} (ho : Only No w w') {p : Nat} {o : Obj} (h : w.heap[p]? = some o) : w'.heap[p]? = some o := (ho.block p (heap_lt h) (fun h => h)).trans h

/-- Three files, and a register in a variable. -/
structure Tri (w : World) (B1 M1 B2 M2 B3 M3 p : Nat) (A : Option Addr) (n c : Nat) (r : Reg) (f1 f2 f3 : Nat → Option Reg) : Prop where
  a : At w B1 M1 f1
  b : At w B2 M2 f2
  cc : At w B3 M3 f3
  rr : w.heap[p]? = some (.cells #[.int .i64 r.1, .slice A n c] 24 (0, 0))
  l : Lines w A n c r.2
  n1 : M1 ≠ M2
  n2 : M1 ≠ M3
  n3 : M2 ≠ M3
section
variable {w w' : World} {B1 M1 B2 M2 B3 M3 p : Nat} {A : Option Addr} {n c : Nat} {r : Reg} {f1 f2 f3 f : Nat → Option Reg}
theorem Tri.step1 (h : Tri w B1 M1 B2 M2 B3 M3 p A n c r f1 f2 f3) (ho : Only (fun b => b = M1) w w') (hA : At w' B1 M1 f) : Tri w' B1 M1 B2 M2 B3 M3 p A n c r f f2 f3 :=
  ⟨hA, other h.b h.a (fun e => h.n1 e.symm) ho, other h.cc h.a (fun e => h.n2 e.symm) ho, regCell (o := .cells #[] 0 (0, 0)) h.a ho h.rr, h.l.only ho (fun b _ e => by subst e; exact h.a.bare), h.n1, h.n2, h.n3⟩
theorem Tri.step2 (h : Tri w B1 M1 B2 M2 B3 M3 p A n c r f1 f2 f3) (ho : Only (fun b => b = M2) w w') (hA : At w' B2 M2 f) : Tri w' B1 M1 B2 M2 B3 M3 p A n c r f1 f f3 :=
  ⟨other h.a h.b h.n1 ho, hA, other h.cc h.b (fun e => h.n3 e.symm) ho, regCell (o := .cells #[] 0 (0, 0)) h.b ho h.rr, h.l.only ho (fun b _ e => by subst e; exact h.b.bare), h.n1, h.n2, h.n3⟩
theorem Tri.step3 (h : Tri w B1 M1 B2 M2 B3 M3 p A n c r f1 f2 f3) (ho : Only (fun b => b = M3) w w') (hA : At w' B3 M3 f) : Tri w' B1 M1 B2 M2 B3 M3 p A n c r f1 f2 f :=
  ⟨other h.a h.cc h.n2 ho, other h.b h.cc h.n3 ho, hA, regCell (o := .cells #[] 0 (0, 0)) h.cc ho h.rr, h.l.only ho (fun b _ e => by subst e; exact h.cc.bare), h.n1, h.n2, h.n3⟩
theorem Tri.no (h : Tri w B1 M1 B2 M2 B3 M3 p A n c r f1 f2 f3) (ho : Only No w w') : Tri w' B1 M1 B2 M2 B3 M3 p A n c r f1 f2 f3 :=
  ⟨h.a.no ho, h.b.no ho, h.cc.no ho, (ho.block _ (heap_lt h.rr) (fun h => h)).trans h.rr, h.l.only ho (fun _ _ h => h.elim), h.n1, h.n2, h.n3⟩
theorem Tri.reg (h : Tri w B1 M1 B2 M2 B3 M3 p A n c r f1 f2 f3) : IsReg w (.agg #[.int .i64 r.1, .slice A n c]) r := ⟨_, _, _, rfl, h.l⟩
end

def k0 : Nat → Option Reg := fun _ => none
theorem bk0 : Bd k0 := bd_none

theorem now_is (k : Nat) (r : Reg) : nowR k0 k r = r := by unfold nowR; split <;> rfl
theorem putE_is {k : Nat} {r : Reg} (h : sizeL r.2 ≤ 101) : putE k0 k r = if isLetter k then 0 else 23 := by
  unfold putE
  rw [now_is, if_neg (show ¬ 4096 < sizeL r.2 by omega)]
theorem put34 (k : Nat) (r : Reg) : putF k0 k r 34 = none := by
  unfold putF
  split
  · rename_i e
    have hl := (putE_letter e).1
    have : keyL k ≠ 34 := by
      unfold keyL
      split
      · rename_i hc
        simp [isCap] at hc; omega
      · rename_i hc
        have h2 : isLow k = true := by simpa [isLetter, hc] using hl
        simp [isLow] at h2; omega
    unfold updR
    rw [if_neg (fun e => this e.symm)]; rfl
  · rfl
theorem set34 {k : Nat} {r : Reg} (h : sizeL r.2 ≤ 101) (f' : Nat → Option Reg) : setF k0 f' k r 34 = if k = 95 then none else if isPlain k || isLetter k then some r else none := by
  unfold setF
  by_cases h95 : k = 95
  · rw [if_pos h95, if_pos h95]; rfl
  · rw [if_neg h95, if_neg h95, if_neg (show ¬ 4096 < sizeL r.2 by omega)]
    cases hp : isPlain k
    · cases hl : isLetter k
      · simp [putE_is h, hl, k0]
      · simp [putE_is h, hl, now_is, updR]
    · simp [updR]
theorem set_is {k : Nat} {r : Reg} (h : sizeL r.2 ≤ 101) : setE k0 k r = if k = 95 then 0 else if isPlain k || isLetter k then 0 else 23 := by
  unfold setE
  by_cases h95 : k = 95
  · rw [if_pos h95, if_pos h95]
  · rw [if_neg h95, if_neg h95, if_neg (show ¬ 4096 < sizeL r.2 by omega), putE_is h]
    cases hp : isPlain k <;> cases hl : isLetter k <;> rfl
/-- What the walk meets, by the name. -/
def Case (k : Nat) (eP eY : Int) (b : Bool) : Prop :=
  (k = 0 ∧ eP = 23 ∧ eY = 0 ∧ b = true) ∨ (k = 34 ∧ eP = 23 ∧ eY = 0 ∧ b = true) ∨ (k = 95 ∧ eP = 23 ∧ eY = 0 ∧ b = false) ∨
  ((97 ≤ (k : Int) ∧ (k : Int) ≤ 122) ∧ eP = 0 ∧ eY = 0 ∧ b = true) ∨ ((65 ≤ (k : Int) ∧ (k : Int) ≤ 90) ∧ eP = 0 ∧ eY = 0 ∧ b = true) ∨
  ((((k : Int) == 0) = false ∧ ((k : Int) == 34) = false ∧ (k : Int) < 65) ∧ eP = 23 ∧ eY = 23 ∧ b = false) ∨ ((90 < (k : Int) ∧ (k : Int) < 97 ∧ ((k : Int) == 95) = false) ∧ eP = 23 ∧ eY = 23 ∧ b = false) ∨ (122 < (k : Int) ∧ eP = 23 ∧ eY = 23 ∧ b = false)
theorem cases_of {k : Nat} {r : Reg} (h : sizeL r.2 ≤ 101) : Case k (putE k0 k r : Nat) (setE k0 k r : Nat) (if k = 95 then false else isPlain k || isLetter k) := by
  unfold Case
  rw [putE_is h, set_is h]
  by_cases h95 : k = 95
  · subst h95; simp [isLetter, isLow, isCap]
  · by_cases h0 : k = 0
    · subst h0; simp [isLetter, isLow, isCap, isPlain]
    · by_cases h34 : k = 34
      · subst h34; simp [isLetter, isLow, isCap, isPlain]
      · have hp : isPlain k = false := by simp [isPlain, h0, h34]
        rw [if_neg h95, if_neg h95, hp, Bool.false_or]
        by_cases hl : 97 ≤ k ∧ k ≤ 122
        · have : isLetter k = true := by simp [isLetter, isLow, hl.1, hl.2]
          rw [this]
          right; right; right; left
          refine ⟨by omega, rfl, rfl, rfl⟩
        · by_cases hc : 65 ≤ k ∧ k ≤ 90
          · have : isLetter k = true := by simp [isLetter, isCap, hc.1, hc.2]
            rw [this]
            right; right; right; right; left
            refine ⟨by omega, rfl, rfl, rfl⟩
          · have : isLetter k = false := by
              simp only [isLetter, isLow, isCap, Bool.or_eq_false_iff, Bool.and_eq_false_iff, decide_eq_false_iff_not]; omega
            rw [this]
            right; right; right; right; right
            by_cases g1 : k < 65
            · left
              refine ⟨⟨by rw [beq_eq_false_iff_ne]; omega, by rw [beq_eq_false_iff_ne]; omega, by omega⟩, rfl, rfl, rfl⟩
            · right
              by_cases g2 : k < 97
              · left
                refine ⟨⟨by omega, by omega, by rw [beq_eq_false_iff_ne]; omega⟩, rfl, rfl, rfl⟩
              · right
                refine ⟨by omega, rfl, rfl, rfl⟩

set_option maxHeartbeats 8000000 in
set_option maxRecDepth 100000 in
theorem law_any (k : Nat) (s : ByteArray) (w : World) (hk : k < 256) (hs : s.size ≤ 9223372036854775807) :
    Calls Try.prog 7 #[.int .u8 (k : Int), .string s] w fun e w' => e = .returned (.bool true) ∧ Below w.heap.size w w' := by
  by_cases hbig : 100 < s.size
  · have g : (100 : Int) < (s.size : Int) := by omega
    go_enter Try.func7, Try.ntmps7
    go_wp2_with (go_at_call 10; refine (known_calls _).mono ?_; rintro e w1 ⟨rfl, hb⟩)
    go_ret
    exact ⟨rfl, hb⟩
  · have g : ¬ (100 : Int) < (s.size : Int) := by omega
    obtain ⟨r, hr⟩ : ∃ r : Reg, r = (0, [s]) := ⟨_, rfl⟩
    have hr1 : r.1 = 0 := by rw [hr]
    have hsz : sizeL r.2 ≤ 101 := by rw [hr]; simp [sizeL]; omega
    go_enter Try.func7, Try.ntmps7
    go_wp2_with (go_at_call 10; refine (known_calls _).mono ?_; rintro e w1 ⟨rfl, hb⟩)
    have hOx := ((Only.refl No w1).alloc (.cells #[.string s] 9)).alloc (.cells #[.int .i64 0, .slice (some ⟨w1.heap.size, 0, none⟩) 1 1] 24)
    have hp : ((w1.alloc (.cells #[.string s] 9)).alloc (.cells #[.int .i64 0, .slice (some ⟨w1.heap.size, 0, none⟩) 1 1] 24)).heap[w1.heap.size + 1]? = some (.cells #[.int .i64 0, .slice (some ⟨w1.heap.size, 0, none⟩) 1 1] 24 (0, 0)) := alloc_at (by simp) _
    have hl : Lines ((w1.alloc (.cells #[.string s] 9)).alloc (.cells #[.int .i64 0, .slice (some ⟨w1.heap.size, 0, none⟩) 1 1] 24)) (some ⟨w1.heap.size, 0, none⟩) 1 1 [s] := (lines_one rfl).only ((Only.refl No _).alloc _) (fun _ _ h => h.elim)
    refine (new_calls _).mono ?_
    rintro e w2 ⟨rfl, hA1, hO1⟩
    go_wp2_with fail
    refine (new_calls _).mono ?_
    rintro e w3 ⟨rfl, hA2, hO2⟩
    go_wp2_with fail
    refine (new_calls _).mono ?_
    rintro e w4 ⟨rfl, hA3, hO3⟩
    go_wp2_with fail
    have hA1 : At w2 (w1.heap.size + 3) (w1.heap.size + 2) k0 := by have h := hA1; simp at h; exact h
    have hT : Tri w4 (w1.heap.size + 3) (w1.heap.size + 2) (w2.heap.size + 1) w2.heap.size (w3.heap.size + 1) w3.heap.size (w1.heap.size + 1) (some ⟨w1.heap.size, 0, none⟩) 1 1 (0, [s]) k0 k0 k0 := by
      have l1 := hA1.lt
      have l2 := hA2.lt
      have z2 := hO2.size
      have hO123 := hO1.trans' (hO2.trans' hO3)
      refine ⟨(hA1.no hO2).no hO3, hA2.no hO3, hA3, ?_, hl.only hO123 (fun _ _ h => h.elim), by omega, by omega, by omega⟩
      exact (hO123.block _ (by simp) (fun h => h)).trans hp
    have z1 := hO1.size
    have z2 := hO2.size
    have z3 := hO3.size
    have l1 := hA1.lt
    simp at z1
    have hOall : Only No w1 w4 := hOx.trans' (hO1.trans' (hO2.trans' hO3))
    clear hp hl hA1 hA2 hA3 hO1 hO2 hO3 hOx
    have hw1 : w.heap.size ≤ w1.heap.size := hb.size
    have HB := Lib.hid (hb.trans (hOall.below (B := w.heap.size) hw1 (fun k h => h.elim)))
    clear hb hOall
    have e1 : w1.heap.size + 1 + 1 + 1 = w1.heap.size + 3 := rfl
    rw [e1]
    obtain ⟨p, hpp⟩ : ∃ p, w1.heap.size + 1 = p := ⟨_, rfl⟩
    obtain ⟨M1, hM1⟩ : ∃ p, w1.heap.size + 2 = p := ⟨_, rfl⟩
    obtain ⟨B1, hB1⟩ : ∃ p, w1.heap.size + 3 = p := ⟨_, rfl⟩
    obtain ⟨B2, hB2⟩ : ∃ p, w2.heap.size + 1 = p := ⟨_, rfl⟩
    obtain ⟨B3, hB3⟩ : ∃ p, w3.heap.size + 1 = p := ⟨_, rfl⟩
    obtain ⟨M2, hM2⟩ : ∃ p, w2.heap.size = p := ⟨_, rfl⟩
    obtain ⟨M3, hM3⟩ : ∃ p, w3.heap.size = p := ⟨_, rfl⟩
    rw [hpp, hM1, hB1, hB2, hB3, hM2, hM3] at hT
    rw [hpp, hB1, hB2, hB3]
    have u1 : w.heap.size ≤ M1 := by omega
    have u2 : w.heap.size ≤ M2 := by omega
    have u3 : w.heap.size ≤ M3 := by omega
    clear hpp hM1 hB1 hB2 hB3 hM2 hM3 z1 z2 z3 l1 hw1 e1
    obtain ⟨q0, hq0⟩ : ∃ q0 : Option Addr, some (⟨w1.heap.size, 0, none⟩ : Addr) = q0 := ⟨_, rfl⟩
    rw [hq0] at hT
    rw [hq0]
    have HT := Lib.hid (hT.no ((Only.refl No w4).drew))
    obtain ⟨c0, c1, _, _⟩ := reg_cells hT.rr
    have c0 : w4.cell? ⟨p, 0, none⟩ = some (.int .i64 0) := c0
    clear hT hr hr1 hsz
    have hsz : sizeL [s] ≤ 101 := by simp [sizeL]; omega
    go_region_held3 (fun w' => w'.cell? ⟨p, 0, none⟩ = some (.int .i64 0) ∧ w'.cell? ⟨p, 1, none⟩ = some (.slice q0 1 1)) (first | go_keep | exact ⟨by assumption, by assumption⟩)
      (first | (go_at_call 23; refine (put_calls B1 M1 k0 k _ (0, [s]) _ HT.out.a HT.out.reg hk (by simp only; omega) bk0).mono ?_; rintro e wa ⟨rfl, hAa, hOa⟩; have HTa := Lib.hid (HT.out.step1 hOa hAa); have a0 := (reg_cells HTa.out.rr).1; have a1 := (reg_cells HTa.out.rr).2.1; have HOa := Lib.hid hOa; clear hAa hOa) | (go_at_call 21; refine (yank_calls B2 M2 k0 k _ (0, [s]) _ HTa.out.b HTa.out.reg hk (by simp only; omega) bk0).mono ?_; rintro e wb ⟨rfl, hAb, hOb⟩; have HTb := Lib.hid (HTa.out.step2 hOb hAb); have b0 := (reg_cells HTb.out.rr).1; have b1 := (reg_cells HTb.out.rr).2.1; have HOb := Lib.hid hOb; clear hAb hOb) | (go_at_call 18; refine (cut_calls B3 M3 k0 k _ (0, [s]) _ HTb.out.cc HTb.out.reg hk (by simp only; omega) bk0).mono ?_; rintro e wc ⟨rfl, hAc, hOc⟩; have HTc := Lib.hid (HTb.out.step3 hOc hAc); have d0 := (reg_cells HTc.out.rr).1; have d1 := (reg_cells HTc.out.rr).2.1; have HOc := Lib.hid hOc; clear hAc hOc))
    have HOall := Lib.hid (And.intro HOa.out (And.intro HOb.out HOc.out))
    have hcase := cases_of (k := k) (r := (0, [s])) hsz
    have y34 := set34 (k := k) (r := (0, [s])) hsz (updR k0 48 (some (0, [s])))
    have c34 := set34 (k := k) (r := (0, [s])) hsz (cutF k0 (0, [s]))
    have p34 := put34 k (0, [s])
    have ho34 : (if k = 95 then none else if (isPlain k || isLetter k) = true then some ((0, [s]) : Reg) else none) = if (if k = 95 then false else isPlain k || isLetter k) = true then some ((0, [s]) : Reg) else none := by
      by_cases h95 : k = 95
      · rw [if_pos h95, if_pos h95]; rfl
      · rw [if_neg h95, if_neg h95]
    rw [ho34] at y34 c34
    clear ho34 a0 a1 b0 b1 c0 c1 d0 d1 HTa HTb HOa HOb HOc HT
    generalize setF k0 (updR k0 48 (some (0, [s]))) k (0, [s]) = fY at *
    generalize setF k0 (cutF k0 (0, [s])) k (0, [s]) = fC at *
    generalize putF k0 k (0, [s]) = fP at *
    generalize (if k = 95 then false else isPlain k || isLetter k) = ob at *
    generalize ((putE k0 k (0, [s]) : Nat) : Int) = eP at *
    generalize ((setE k0 k (0, [s]) : Nat) : Int) = eY at *
    have hx34 : Rg.keyOf 34 = 34 := by decide
    unfold Case at hcase
    have hprop : ∀ G : Prop, (G → G) := fun _ h => h
    refine hprop _ ?_
    rcases hcase with ⟨rfl, rfl, rfl, rfl⟩ | ⟨rfl, rfl, rfl, rfl⟩ | ⟨rfl, rfl, rfl, rfl⟩ | ⟨⟨h1, h2⟩, rfl, rfl, rfl⟩ | ⟨⟨h1, h2⟩, rfl, rfl, rfl⟩ | ⟨⟨h1, h2, h3⟩, rfl, rfl, rfl⟩ | ⟨⟨h1, h2, h3⟩, rfl, rfl, rfl⟩ | ⟨h1, rfl, rfl, rfl⟩
    · skip
      simp only [if_true, Bool.false_eq_true, if_false] at y34 c34
      go_wp2_with fail
      refine (get_calls B2 M2 fY 34 _ HTc.out.b (by omega) (by rw [hx34, y34]; simp [regOr])).mono ?_
      rintro e wd ⟨u, rfl, hu, hOd⟩
      rw [hx34, y34] at hu
      rw [hx34, y34]
      simp only [regOr, Option.getD_some, Option.isSome_some] at hu ⊢
      obtain ⟨A1, n1, m1, rfl, hl1⟩ := hu
      simp only at hl1 ⊢
      have hx1 := (Only.refl No wd).alloc (.cells #[.int .i64 0, .slice A1 n1 m1] 24)
      have HT1 := Lib.hid ((HTc.out.no hOd).no hx1)
      have F1 := Lib.hid (alloc_new wd (.cells #[.int .i64 0, .slice A1 n1 m1] 24))
      have L1 := Lib.hid (hl1.only hx1 (fun _ _ h => h.elim))
      have O1 := Lib.hid (hOd.trans' hx1)
      clear hl1 hOd hx1
      go_wp2_with fail
      refine (get_calls B3 M3 fC 34 _ HT1.out.cc (by omega) (by rw [hx34, c34]; simp [regOr])).mono ?_
      rintro e we ⟨u, rfl, hu, hOe⟩
      rw [hx34, c34] at hu
      rw [hx34, c34]
      simp only [regOr, Option.getD_some, Option.isSome_some] at hu ⊢
      obtain ⟨A2, n2, m2, rfl, hl2⟩ := hu
      simp only at hl2 ⊢
      have hx2 := (Only.refl No we).alloc (.cells #[.int .i64 0, .slice A2 n2 m2] 24)
      have HT2 := Lib.hid ((HT1.out.no hOe).no hx2)
      have F12 := Lib.hid (keep (hOe.trans' hx2) F1.out)
      have L12 := Lib.hid (L1.out.only (hOe.trans' hx2) (fun _ _ h => h.elim))
      have F2 := Lib.hid (alloc_new we (.cells #[.int .i64 0, .slice A2 n2 m2] 24))
      have L2 := Lib.hid (hl2.only hx2 (fun _ _ h => h.elim))
      have O2 := Lib.hid (O1.out.trans' (hOe.trans' hx2))
      clear hl2 hOe hx2 F1 L1 O1 HT1
      go_wp2_with fail
      refine (get_calls B1 M1 fP 34 _ HT2.out.a (by omega) (by rw [hx34, p34]; simp [regOr])).mono ?_
      rintro e wf ⟨u, rfl, hu, hOf⟩
      rw [hx34, p34] at hu
      rw [hx34, p34]
      simp only [regOr, Option.getD_none, Option.isSome_none] at hu ⊢
      obtain ⟨A3, n3, m3, rfl, hl3⟩ := hu
      simp only at hl3 ⊢
      have hn3 := hl3.len
      simp only [List.length_nil] at hn3
      subst hn3
      have hx3 := (Only.refl No wf).alloc (.cells #[.int .i64 0, .slice A3 0 m3] 24)
      have HT3 := Lib.hid ((HT2.out.no hOf).no hx3)
      have f1 := keep (hOf.trans' hx3) F12.out
      have f2 := keep (hOf.trans' hx3) F2.out
      have L13 := Lib.hid (L12.out.only (hOf.trans' hx3) (fun _ _ h => h.elim))
      have L23 := Lib.hid (L2.out.only (hOf.trans' hx3) (fun _ _ h => h.elim))
      have O3 := Lib.hid (O2.out.trans' (hOf.trans' hx3))
      obtain ⟨x0, x1, _, _⟩ := reg_cells f1
      obtain ⟨y0, y1, _, _⟩ := reg_cells f2
      obtain ⟨v0, v1, _, _⟩ := reg_cells HT3.out.rr
      have v0 : _ = some (Value.int .i64 0) := v0
      have G2 := Lib.hid f2
      have hHB := HB.out.trans (((Only.refl No w4).drew).below (B := w.heap.size) HB.out.size (fun k h => h.elim))
      have hHB := hHB.trans (HOall.out.1.below (B := w.heap.size) hHB.size (fun k h => by omega))
      have hHB := hHB.trans (HOall.out.2.1.below (B := w.heap.size) hHB.size (fun k h => by omega))
      have hHB := hHB.trans (HOall.out.2.2.below (B := w.heap.size) hHB.size (fun k h => by omega))
      have hHB := hHB.trans (O3.out.below (B := w.heap.size) hHB.size (fun k h => h.elim))
      have HBB := Lib.hid hHB
      clear hHB hl3 hOf hx3 f1 f2 F12 F2 L12 L2 O2 O3 HT2
      go_wp2_with fail
      refine (reg_calls _ _ (0, [s]) (0, [s]) _ ⟨A1, n1, m1, rfl, L13.out⟩ HT3.out.reg).mono ?_
      rintro e wg ⟨rfl, hOg⟩
      rw [decide_eq_true (rfl : ((0, [s]) : Reg) = (0, [s]))]
      have HT4 := Lib.hid (HT3.out.no hOg)
      have L24 := Lib.hid (L23.out.only hOg (fun _ _ h => h.elim))
      clear x0 x1 y0 y1 v0 v1
      obtain ⟨y0, y1, _, _⟩ := reg_cells (keep hOg G2.out)
      obtain ⟨v0, v1, _, _⟩ := reg_cells HT4.out.rr
      have v0 : _ = some (Value.int .i64 0) := v0
      have HBC := Lib.hid (HBB.out.trans (hOg.below (B := w.heap.size) HBB.out.size (fun k h => h.elim)))
      clear hOg HT3 L23 L13 G2
      go_wp2_with fail
      refine (reg_calls _ _ (0, [s]) (0, [s]) _ ⟨A2, n2, m2, rfl, L24.out⟩ HT4.out.reg).mono ?_
      rintro e wh ⟨rfl, hOh⟩
      rw [decide_eq_true (rfl : ((0, [s]) : Reg) = (0, [s]))]
      go_wp2
      go_ret
      exact ⟨rfl, HBC.out.trans (hOh.below (B := w.heap.size) HBC.out.size (fun k h => h.elim))⟩
    · skip
      simp only [if_true, Bool.false_eq_true, if_false] at y34 c34
      go_wp2_with fail
      refine (get_calls B2 M2 fY 34 _ HTc.out.b (by omega) (by rw [hx34, y34]; simp [regOr])).mono ?_
      rintro e wd ⟨u, rfl, hu, hOd⟩
      rw [hx34, y34] at hu
      rw [hx34, y34]
      simp only [regOr, Option.getD_some, Option.isSome_some] at hu ⊢
      obtain ⟨A1, n1, m1, rfl, hl1⟩ := hu
      simp only at hl1 ⊢
      have hx1 := (Only.refl No wd).alloc (.cells #[.int .i64 0, .slice A1 n1 m1] 24)
      have HT1 := Lib.hid ((HTc.out.no hOd).no hx1)
      have F1 := Lib.hid (alloc_new wd (.cells #[.int .i64 0, .slice A1 n1 m1] 24))
      have L1 := Lib.hid (hl1.only hx1 (fun _ _ h => h.elim))
      have O1 := Lib.hid (hOd.trans' hx1)
      clear hl1 hOd hx1
      go_wp2_with fail
      refine (get_calls B3 M3 fC 34 _ HT1.out.cc (by omega) (by rw [hx34, c34]; simp [regOr])).mono ?_
      rintro e we ⟨u, rfl, hu, hOe⟩
      rw [hx34, c34] at hu
      rw [hx34, c34]
      simp only [regOr, Option.getD_some, Option.isSome_some] at hu ⊢
      obtain ⟨A2, n2, m2, rfl, hl2⟩ := hu
      simp only at hl2 ⊢
      have hx2 := (Only.refl No we).alloc (.cells #[.int .i64 0, .slice A2 n2 m2] 24)
      have HT2 := Lib.hid ((HT1.out.no hOe).no hx2)
      have F12 := Lib.hid (keep (hOe.trans' hx2) F1.out)
      have L12 := Lib.hid (L1.out.only (hOe.trans' hx2) (fun _ _ h => h.elim))
      have F2 := Lib.hid (alloc_new we (.cells #[.int .i64 0, .slice A2 n2 m2] 24))
      have L2 := Lib.hid (hl2.only hx2 (fun _ _ h => h.elim))
      have O2 := Lib.hid (O1.out.trans' (hOe.trans' hx2))
      clear hl2 hOe hx2 F1 L1 O1 HT1
      go_wp2_with fail
      refine (get_calls B1 M1 fP 34 _ HT2.out.a (by omega) (by rw [hx34, p34]; simp [regOr])).mono ?_
      rintro e wf ⟨u, rfl, hu, hOf⟩
      rw [hx34, p34] at hu
      rw [hx34, p34]
      simp only [regOr, Option.getD_none, Option.isSome_none] at hu ⊢
      obtain ⟨A3, n3, m3, rfl, hl3⟩ := hu
      simp only at hl3 ⊢
      have hn3 := hl3.len
      simp only [List.length_nil] at hn3
      subst hn3
      have hx3 := (Only.refl No wf).alloc (.cells #[.int .i64 0, .slice A3 0 m3] 24)
      have HT3 := Lib.hid ((HT2.out.no hOf).no hx3)
      have f1 := keep (hOf.trans' hx3) F12.out
      have f2 := keep (hOf.trans' hx3) F2.out
      have L13 := Lib.hid (L12.out.only (hOf.trans' hx3) (fun _ _ h => h.elim))
      have L23 := Lib.hid (L2.out.only (hOf.trans' hx3) (fun _ _ h => h.elim))
      have O3 := Lib.hid (O2.out.trans' (hOf.trans' hx3))
      obtain ⟨x0, x1, _, _⟩ := reg_cells f1
      obtain ⟨y0, y1, _, _⟩ := reg_cells f2
      obtain ⟨v0, v1, _, _⟩ := reg_cells HT3.out.rr
      have v0 : _ = some (Value.int .i64 0) := v0
      have G2 := Lib.hid f2
      have hHB := HB.out.trans (((Only.refl No w4).drew).below (B := w.heap.size) HB.out.size (fun k h => h.elim))
      have hHB := hHB.trans (HOall.out.1.below (B := w.heap.size) hHB.size (fun k h => by omega))
      have hHB := hHB.trans (HOall.out.2.1.below (B := w.heap.size) hHB.size (fun k h => by omega))
      have hHB := hHB.trans (HOall.out.2.2.below (B := w.heap.size) hHB.size (fun k h => by omega))
      have hHB := hHB.trans (O3.out.below (B := w.heap.size) hHB.size (fun k h => h.elim))
      have HBB := Lib.hid hHB
      clear hHB hl3 hOf hx3 f1 f2 F12 F2 L12 L2 O2 O3 HT2
      go_wp2_with fail
      refine (reg_calls _ _ (0, [s]) (0, [s]) _ ⟨A1, n1, m1, rfl, L13.out⟩ HT3.out.reg).mono ?_
      rintro e wg ⟨rfl, hOg⟩
      rw [decide_eq_true (rfl : ((0, [s]) : Reg) = (0, [s]))]
      have HT4 := Lib.hid (HT3.out.no hOg)
      have L24 := Lib.hid (L23.out.only hOg (fun _ _ h => h.elim))
      clear x0 x1 y0 y1 v0 v1
      obtain ⟨y0, y1, _, _⟩ := reg_cells (keep hOg G2.out)
      obtain ⟨v0, v1, _, _⟩ := reg_cells HT4.out.rr
      have v0 : _ = some (Value.int .i64 0) := v0
      have HBC := Lib.hid (HBB.out.trans (hOg.below (B := w.heap.size) HBB.out.size (fun k h => h.elim)))
      clear hOg HT3 L23 L13 G2
      go_wp2_with fail
      refine (reg_calls _ _ (0, [s]) (0, [s]) _ ⟨A2, n2, m2, rfl, L24.out⟩ HT4.out.reg).mono ?_
      rintro e wh ⟨rfl, hOh⟩
      rw [decide_eq_true (rfl : ((0, [s]) : Reg) = (0, [s]))]
      go_wp2
      go_ret
      exact ⟨rfl, HBC.out.trans (hOh.below (B := w.heap.size) HBC.out.size (fun k h => h.elim))⟩
    · skip
      simp only [if_true, Bool.false_eq_true, if_false] at y34 c34
      go_wp2_with fail
      refine (get_calls B2 M2 fY 34 _ HTc.out.b (by omega) (by rw [hx34, y34]; simp [regOr])).mono ?_
      rintro e wd ⟨u, rfl, hu, hOd⟩
      rw [hx34, y34] at hu
      rw [hx34, y34]
      simp only [regOr, Option.getD_none, Option.isSome_none] at hu ⊢
      obtain ⟨A1, n1, m1, rfl, hl1⟩ := hu
      simp only at hl1 ⊢
      have hx1 := (Only.refl No wd).alloc (.cells #[.int .i64 0, .slice A1 n1 m1] 24)
      have HT1 := Lib.hid ((HTc.out.no hOd).no hx1)
      have F1 := Lib.hid (alloc_new wd (.cells #[.int .i64 0, .slice A1 n1 m1] 24))
      have L1 := Lib.hid (hl1.only hx1 (fun _ _ h => h.elim))
      have O1 := Lib.hid (hOd.trans' hx1)
      clear hl1 hOd hx1
      go_wp2_with fail
      refine (get_calls B3 M3 fC 34 _ HT1.out.cc (by omega) (by rw [hx34, c34]; simp [regOr])).mono ?_
      rintro e we ⟨u, rfl, hu, hOe⟩
      rw [hx34, c34] at hu
      rw [hx34, c34]
      simp only [regOr, Option.getD_none, Option.isSome_none] at hu ⊢
      obtain ⟨A2, n2, m2, rfl, hl2⟩ := hu
      simp only at hl2 ⊢
      have hx2 := (Only.refl No we).alloc (.cells #[.int .i64 0, .slice A2 n2 m2] 24)
      have HT2 := Lib.hid ((HT1.out.no hOe).no hx2)
      have F12 := Lib.hid (keep (hOe.trans' hx2) F1.out)
      have L12 := Lib.hid (L1.out.only (hOe.trans' hx2) (fun _ _ h => h.elim))
      have F2 := Lib.hid (alloc_new we (.cells #[.int .i64 0, .slice A2 n2 m2] 24))
      have L2 := Lib.hid (hl2.only hx2 (fun _ _ h => h.elim))
      have O2 := Lib.hid (O1.out.trans' (hOe.trans' hx2))
      clear hl2 hOe hx2 F1 L1 O1 HT1
      go_wp2_with fail
      refine (get_calls B1 M1 fP 34 _ HT2.out.a (by omega) (by rw [hx34, p34]; simp [regOr])).mono ?_
      rintro e wf ⟨u, rfl, hu, hOf⟩
      rw [hx34, p34] at hu
      rw [hx34, p34]
      simp only [regOr, Option.getD_none, Option.isSome_none] at hu ⊢
      obtain ⟨A3, n3, m3, rfl, hl3⟩ := hu
      simp only at hl3 ⊢
      have hn3 := hl3.len
      simp only [List.length_nil] at hn3
      subst hn3
      have hx3 := (Only.refl No wf).alloc (.cells #[.int .i64 0, .slice A3 0 m3] 24)
      have HT3 := Lib.hid ((HT2.out.no hOf).no hx3)
      have f1 := keep (hOf.trans' hx3) F12.out
      have f2 := keep (hOf.trans' hx3) F2.out
      have L13 := Lib.hid (L12.out.only (hOf.trans' hx3) (fun _ _ h => h.elim))
      have L23 := Lib.hid (L2.out.only (hOf.trans' hx3) (fun _ _ h => h.elim))
      have O3 := Lib.hid (O2.out.trans' (hOf.trans' hx3))
      obtain ⟨x0, x1, _, _⟩ := reg_cells f1
      obtain ⟨y0, y1, _, _⟩ := reg_cells f2
      obtain ⟨v0, v1, _, _⟩ := reg_cells HT3.out.rr
      have v0 : _ = some (Value.int .i64 0) := v0
      have G2 := Lib.hid f2
      have hHB := HB.out.trans (((Only.refl No w4).drew).below (B := w.heap.size) HB.out.size (fun k h => h.elim))
      have hHB := hHB.trans (HOall.out.1.below (B := w.heap.size) hHB.size (fun k h => by omega))
      have hHB := hHB.trans (HOall.out.2.1.below (B := w.heap.size) hHB.size (fun k h => by omega))
      have hHB := hHB.trans (HOall.out.2.2.below (B := w.heap.size) hHB.size (fun k h => by omega))
      have hHB := hHB.trans (O3.out.below (B := w.heap.size) hHB.size (fun k h => h.elim))
      have HBB := Lib.hid hHB
      clear hHB hl3 hOf hx3 f1 f2 F12 F2 L12 L2 O2 O3 HT2
      go_wp2_with fail
      go_ret
      exact ⟨rfl, HBB.out⟩
    · skip
      simp only [if_true, Bool.false_eq_true, if_false] at y34 c34
      go_wp2_with fail
      refine (get_calls B2 M2 fY 34 _ HTc.out.b (by omega) (by rw [hx34, y34]; simp [regOr])).mono ?_
      rintro e wd ⟨u, rfl, hu, hOd⟩
      rw [hx34, y34] at hu
      rw [hx34, y34]
      simp only [regOr, Option.getD_some, Option.isSome_some] at hu ⊢
      obtain ⟨A1, n1, m1, rfl, hl1⟩ := hu
      simp only at hl1 ⊢
      have hx1 := (Only.refl No wd).alloc (.cells #[.int .i64 0, .slice A1 n1 m1] 24)
      have HT1 := Lib.hid ((HTc.out.no hOd).no hx1)
      have F1 := Lib.hid (alloc_new wd (.cells #[.int .i64 0, .slice A1 n1 m1] 24))
      have L1 := Lib.hid (hl1.only hx1 (fun _ _ h => h.elim))
      have O1 := Lib.hid (hOd.trans' hx1)
      clear hl1 hOd hx1
      go_wp2_with fail
      refine (get_calls B3 M3 fC 34 _ HT1.out.cc (by omega) (by rw [hx34, c34]; simp [regOr])).mono ?_
      rintro e we ⟨u, rfl, hu, hOe⟩
      rw [hx34, c34] at hu
      rw [hx34, c34]
      simp only [regOr, Option.getD_some, Option.isSome_some] at hu ⊢
      obtain ⟨A2, n2, m2, rfl, hl2⟩ := hu
      simp only at hl2 ⊢
      have hx2 := (Only.refl No we).alloc (.cells #[.int .i64 0, .slice A2 n2 m2] 24)
      have HT2 := Lib.hid ((HT1.out.no hOe).no hx2)
      have F12 := Lib.hid (keep (hOe.trans' hx2) F1.out)
      have L12 := Lib.hid (L1.out.only (hOe.trans' hx2) (fun _ _ h => h.elim))
      have F2 := Lib.hid (alloc_new we (.cells #[.int .i64 0, .slice A2 n2 m2] 24))
      have L2 := Lib.hid (hl2.only hx2 (fun _ _ h => h.elim))
      have O2 := Lib.hid (O1.out.trans' (hOe.trans' hx2))
      clear hl2 hOe hx2 F1 L1 O1 HT1
      go_wp2_with fail
      refine (get_calls B1 M1 fP 34 _ HT2.out.a (by omega) (by rw [hx34, p34]; simp [regOr])).mono ?_
      rintro e wf ⟨u, rfl, hu, hOf⟩
      rw [hx34, p34] at hu
      rw [hx34, p34]
      simp only [regOr, Option.getD_none, Option.isSome_none] at hu ⊢
      obtain ⟨A3, n3, m3, rfl, hl3⟩ := hu
      simp only at hl3 ⊢
      have hn3 := hl3.len
      simp only [List.length_nil] at hn3
      subst hn3
      have hx3 := (Only.refl No wf).alloc (.cells #[.int .i64 0, .slice A3 0 m3] 24)
      have HT3 := Lib.hid ((HT2.out.no hOf).no hx3)
      have f1 := keep (hOf.trans' hx3) F12.out
      have f2 := keep (hOf.trans' hx3) F2.out
      have L13 := Lib.hid (L12.out.only (hOf.trans' hx3) (fun _ _ h => h.elim))
      have L23 := Lib.hid (L2.out.only (hOf.trans' hx3) (fun _ _ h => h.elim))
      have O3 := Lib.hid (O2.out.trans' (hOf.trans' hx3))
      obtain ⟨x0, x1, _, _⟩ := reg_cells f1
      obtain ⟨y0, y1, _, _⟩ := reg_cells f2
      obtain ⟨v0, v1, _, _⟩ := reg_cells HT3.out.rr
      have v0 : _ = some (Value.int .i64 0) := v0
      have G2 := Lib.hid f2
      have hHB := HB.out.trans (((Only.refl No w4).drew).below (B := w.heap.size) HB.out.size (fun k h => h.elim))
      have hHB := hHB.trans (HOall.out.1.below (B := w.heap.size) hHB.size (fun k h => by omega))
      have hHB := hHB.trans (HOall.out.2.1.below (B := w.heap.size) hHB.size (fun k h => by omega))
      have hHB := hHB.trans (HOall.out.2.2.below (B := w.heap.size) hHB.size (fun k h => by omega))
      have hHB := hHB.trans (O3.out.below (B := w.heap.size) hHB.size (fun k h => h.elim))
      have HBB := Lib.hid hHB
      clear hHB hl3 hOf hx3 f1 f2 F12 F2 L12 L2 O2 O3 HT2
      go_wp2_with fail
      refine (reg_calls _ _ (0, [s]) (0, [s]) _ ⟨A1, n1, m1, rfl, L13.out⟩ HT3.out.reg).mono ?_
      rintro e wg ⟨rfl, hOg⟩
      rw [decide_eq_true (rfl : ((0, [s]) : Reg) = (0, [s]))]
      have HT4 := Lib.hid (HT3.out.no hOg)
      have L24 := Lib.hid (L23.out.only hOg (fun _ _ h => h.elim))
      clear x0 x1 y0 y1 v0 v1
      obtain ⟨y0, y1, _, _⟩ := reg_cells (keep hOg G2.out)
      obtain ⟨v0, v1, _, _⟩ := reg_cells HT4.out.rr
      have v0 : _ = some (Value.int .i64 0) := v0
      have HBC := Lib.hid (HBB.out.trans (hOg.below (B := w.heap.size) HBB.out.size (fun k h => h.elim)))
      clear hOg HT3 L23 L13 G2
      go_wp2_with fail
      refine (reg_calls _ _ (0, [s]) (0, [s]) _ ⟨A2, n2, m2, rfl, L24.out⟩ HT4.out.reg).mono ?_
      rintro e wh ⟨rfl, hOh⟩
      rw [decide_eq_true (rfl : ((0, [s]) : Reg) = (0, [s]))]
      go_wp2
      go_ret
      exact ⟨rfl, HBC.out.trans (hOh.below (B := w.heap.size) HBC.out.size (fun k h => h.elim))⟩
    · skip
      simp only [if_true, Bool.false_eq_true, if_false] at y34 c34
      go_wp2_with fail
      refine (get_calls B2 M2 fY 34 _ HTc.out.b (by omega) (by rw [hx34, y34]; simp [regOr])).mono ?_
      rintro e wd ⟨u, rfl, hu, hOd⟩
      rw [hx34, y34] at hu
      rw [hx34, y34]
      simp only [regOr, Option.getD_some, Option.isSome_some] at hu ⊢
      obtain ⟨A1, n1, m1, rfl, hl1⟩ := hu
      simp only at hl1 ⊢
      have hx1 := (Only.refl No wd).alloc (.cells #[.int .i64 0, .slice A1 n1 m1] 24)
      have HT1 := Lib.hid ((HTc.out.no hOd).no hx1)
      have F1 := Lib.hid (alloc_new wd (.cells #[.int .i64 0, .slice A1 n1 m1] 24))
      have L1 := Lib.hid (hl1.only hx1 (fun _ _ h => h.elim))
      have O1 := Lib.hid (hOd.trans' hx1)
      clear hl1 hOd hx1
      go_wp2_with fail
      refine (get_calls B3 M3 fC 34 _ HT1.out.cc (by omega) (by rw [hx34, c34]; simp [regOr])).mono ?_
      rintro e we ⟨u, rfl, hu, hOe⟩
      rw [hx34, c34] at hu
      rw [hx34, c34]
      simp only [regOr, Option.getD_some, Option.isSome_some] at hu ⊢
      obtain ⟨A2, n2, m2, rfl, hl2⟩ := hu
      simp only at hl2 ⊢
      have hx2 := (Only.refl No we).alloc (.cells #[.int .i64 0, .slice A2 n2 m2] 24)
      have HT2 := Lib.hid ((HT1.out.no hOe).no hx2)
      have F12 := Lib.hid (keep (hOe.trans' hx2) F1.out)
      have L12 := Lib.hid (L1.out.only (hOe.trans' hx2) (fun _ _ h => h.elim))
      have F2 := Lib.hid (alloc_new we (.cells #[.int .i64 0, .slice A2 n2 m2] 24))
      have L2 := Lib.hid (hl2.only hx2 (fun _ _ h => h.elim))
      have O2 := Lib.hid (O1.out.trans' (hOe.trans' hx2))
      clear hl2 hOe hx2 F1 L1 O1 HT1
      go_wp2_with fail
      refine (get_calls B1 M1 fP 34 _ HT2.out.a (by omega) (by rw [hx34, p34]; simp [regOr])).mono ?_
      rintro e wf ⟨u, rfl, hu, hOf⟩
      rw [hx34, p34] at hu
      rw [hx34, p34]
      simp only [regOr, Option.getD_none, Option.isSome_none] at hu ⊢
      obtain ⟨A3, n3, m3, rfl, hl3⟩ := hu
      simp only at hl3 ⊢
      have hn3 := hl3.len
      simp only [List.length_nil] at hn3
      subst hn3
      have hx3 := (Only.refl No wf).alloc (.cells #[.int .i64 0, .slice A3 0 m3] 24)
      have HT3 := Lib.hid ((HT2.out.no hOf).no hx3)
      have f1 := keep (hOf.trans' hx3) F12.out
      have f2 := keep (hOf.trans' hx3) F2.out
      have L13 := Lib.hid (L12.out.only (hOf.trans' hx3) (fun _ _ h => h.elim))
      have L23 := Lib.hid (L2.out.only (hOf.trans' hx3) (fun _ _ h => h.elim))
      have O3 := Lib.hid (O2.out.trans' (hOf.trans' hx3))
      obtain ⟨x0, x1, _, _⟩ := reg_cells f1
      obtain ⟨y0, y1, _, _⟩ := reg_cells f2
      obtain ⟨v0, v1, _, _⟩ := reg_cells HT3.out.rr
      have v0 : _ = some (Value.int .i64 0) := v0
      have G2 := Lib.hid f2
      have hHB := HB.out.trans (((Only.refl No w4).drew).below (B := w.heap.size) HB.out.size (fun k h => h.elim))
      have hHB := hHB.trans (HOall.out.1.below (B := w.heap.size) hHB.size (fun k h => by omega))
      have hHB := hHB.trans (HOall.out.2.1.below (B := w.heap.size) hHB.size (fun k h => by omega))
      have hHB := hHB.trans (HOall.out.2.2.below (B := w.heap.size) hHB.size (fun k h => by omega))
      have hHB := hHB.trans (O3.out.below (B := w.heap.size) hHB.size (fun k h => h.elim))
      have HBB := Lib.hid hHB
      clear hHB hl3 hOf hx3 f1 f2 F12 F2 L12 L2 O2 O3 HT2
      go_wp2_with fail
      refine (reg_calls _ _ (0, [s]) (0, [s]) _ ⟨A1, n1, m1, rfl, L13.out⟩ HT3.out.reg).mono ?_
      rintro e wg ⟨rfl, hOg⟩
      rw [decide_eq_true (rfl : ((0, [s]) : Reg) = (0, [s]))]
      have HT4 := Lib.hid (HT3.out.no hOg)
      have L24 := Lib.hid (L23.out.only hOg (fun _ _ h => h.elim))
      clear x0 x1 y0 y1 v0 v1
      obtain ⟨y0, y1, _, _⟩ := reg_cells (keep hOg G2.out)
      obtain ⟨v0, v1, _, _⟩ := reg_cells HT4.out.rr
      have v0 : _ = some (Value.int .i64 0) := v0
      have HBC := Lib.hid (HBB.out.trans (hOg.below (B := w.heap.size) HBB.out.size (fun k h => h.elim)))
      clear hOg HT3 L23 L13 G2
      go_wp2_with fail
      refine (reg_calls _ _ (0, [s]) (0, [s]) _ ⟨A2, n2, m2, rfl, L24.out⟩ HT4.out.reg).mono ?_
      rintro e wh ⟨rfl, hOh⟩
      rw [decide_eq_true (rfl : ((0, [s]) : Reg) = (0, [s]))]
      go_wp2
      go_ret
      exact ⟨rfl, HBC.out.trans (hOh.below (B := w.heap.size) HBC.out.size (fun k h => h.elim))⟩
    · skip
      have q2 : ((k : Int) == 95) = false := by rw [beq_eq_false_iff_ne]; omega
      simp only [if_true, Bool.false_eq_true, if_false] at y34 c34
      go_wp2_with fail
      refine (get_calls B2 M2 fY 34 _ HTc.out.b (by omega) (by rw [hx34, y34]; simp [regOr])).mono ?_
      rintro e wd ⟨u, rfl, hu, hOd⟩
      rw [hx34, y34] at hu
      rw [hx34, y34]
      simp only [regOr, Option.getD_none, Option.isSome_none] at hu ⊢
      obtain ⟨A1, n1, m1, rfl, hl1⟩ := hu
      simp only at hl1 ⊢
      have hx1 := (Only.refl No wd).alloc (.cells #[.int .i64 0, .slice A1 n1 m1] 24)
      have HT1 := Lib.hid ((HTc.out.no hOd).no hx1)
      have F1 := Lib.hid (alloc_new wd (.cells #[.int .i64 0, .slice A1 n1 m1] 24))
      have L1 := Lib.hid (hl1.only hx1 (fun _ _ h => h.elim))
      have O1 := Lib.hid (hOd.trans' hx1)
      clear hl1 hOd hx1
      go_wp2_with fail
      refine (get_calls B3 M3 fC 34 _ HT1.out.cc (by omega) (by rw [hx34, c34]; simp [regOr])).mono ?_
      rintro e we ⟨u, rfl, hu, hOe⟩
      rw [hx34, c34] at hu
      rw [hx34, c34]
      simp only [regOr, Option.getD_none, Option.isSome_none] at hu ⊢
      obtain ⟨A2, n2, m2, rfl, hl2⟩ := hu
      simp only at hl2 ⊢
      have hx2 := (Only.refl No we).alloc (.cells #[.int .i64 0, .slice A2 n2 m2] 24)
      have HT2 := Lib.hid ((HT1.out.no hOe).no hx2)
      have F12 := Lib.hid (keep (hOe.trans' hx2) F1.out)
      have L12 := Lib.hid (L1.out.only (hOe.trans' hx2) (fun _ _ h => h.elim))
      have F2 := Lib.hid (alloc_new we (.cells #[.int .i64 0, .slice A2 n2 m2] 24))
      have L2 := Lib.hid (hl2.only hx2 (fun _ _ h => h.elim))
      have O2 := Lib.hid (O1.out.trans' (hOe.trans' hx2))
      clear hl2 hOe hx2 F1 L1 O1 HT1
      go_wp2_with fail
      refine (get_calls B1 M1 fP 34 _ HT2.out.a (by omega) (by rw [hx34, p34]; simp [regOr])).mono ?_
      rintro e wf ⟨u, rfl, hu, hOf⟩
      rw [hx34, p34] at hu
      rw [hx34, p34]
      simp only [regOr, Option.getD_none, Option.isSome_none] at hu ⊢
      obtain ⟨A3, n3, m3, rfl, hl3⟩ := hu
      simp only at hl3 ⊢
      have hn3 := hl3.len
      simp only [List.length_nil] at hn3
      subst hn3
      have hx3 := (Only.refl No wf).alloc (.cells #[.int .i64 0, .slice A3 0 m3] 24)
      have HT3 := Lib.hid ((HT2.out.no hOf).no hx3)
      have f1 := keep (hOf.trans' hx3) F12.out
      have f2 := keep (hOf.trans' hx3) F2.out
      have L13 := Lib.hid (L12.out.only (hOf.trans' hx3) (fun _ _ h => h.elim))
      have L23 := Lib.hid (L2.out.only (hOf.trans' hx3) (fun _ _ h => h.elim))
      have O3 := Lib.hid (O2.out.trans' (hOf.trans' hx3))
      obtain ⟨x0, x1, _, _⟩ := reg_cells f1
      obtain ⟨y0, y1, _, _⟩ := reg_cells f2
      obtain ⟨v0, v1, _, _⟩ := reg_cells HT3.out.rr
      have v0 : _ = some (Value.int .i64 0) := v0
      have G2 := Lib.hid f2
      have hHB := HB.out.trans (((Only.refl No w4).drew).below (B := w.heap.size) HB.out.size (fun k h => h.elim))
      have hHB := hHB.trans (HOall.out.1.below (B := w.heap.size) hHB.size (fun k h => by omega))
      have hHB := hHB.trans (HOall.out.2.1.below (B := w.heap.size) hHB.size (fun k h => by omega))
      have hHB := hHB.trans (HOall.out.2.2.below (B := w.heap.size) hHB.size (fun k h => by omega))
      have hHB := hHB.trans (O3.out.below (B := w.heap.size) hHB.size (fun k h => h.elim))
      have HBB := Lib.hid hHB
      clear hHB hl3 hOf hx3 f1 f2 F12 F2 L12 L2 O2 O3 HT2
      go_wp2_with fail
      go_ret
      exact ⟨rfl, HBB.out⟩
    · skip
      have q0 : ((k : Int) == 0) = false := by rw [beq_eq_false_iff_ne]; omega
      have q1 : ((k : Int) == 34) = false := by rw [beq_eq_false_iff_ne]; omega
      simp only [if_true, Bool.false_eq_true, if_false] at y34 c34
      go_wp2_with fail
      refine (get_calls B2 M2 fY 34 _ HTc.out.b (by omega) (by rw [hx34, y34]; simp [regOr])).mono ?_
      rintro e wd ⟨u, rfl, hu, hOd⟩
      rw [hx34, y34] at hu
      rw [hx34, y34]
      simp only [regOr, Option.getD_none, Option.isSome_none] at hu ⊢
      obtain ⟨A1, n1, m1, rfl, hl1⟩ := hu
      simp only at hl1 ⊢
      have hx1 := (Only.refl No wd).alloc (.cells #[.int .i64 0, .slice A1 n1 m1] 24)
      have HT1 := Lib.hid ((HTc.out.no hOd).no hx1)
      have F1 := Lib.hid (alloc_new wd (.cells #[.int .i64 0, .slice A1 n1 m1] 24))
      have L1 := Lib.hid (hl1.only hx1 (fun _ _ h => h.elim))
      have O1 := Lib.hid (hOd.trans' hx1)
      clear hl1 hOd hx1
      go_wp2_with fail
      refine (get_calls B3 M3 fC 34 _ HT1.out.cc (by omega) (by rw [hx34, c34]; simp [regOr])).mono ?_
      rintro e we ⟨u, rfl, hu, hOe⟩
      rw [hx34, c34] at hu
      rw [hx34, c34]
      simp only [regOr, Option.getD_none, Option.isSome_none] at hu ⊢
      obtain ⟨A2, n2, m2, rfl, hl2⟩ := hu
      simp only at hl2 ⊢
      have hx2 := (Only.refl No we).alloc (.cells #[.int .i64 0, .slice A2 n2 m2] 24)
      have HT2 := Lib.hid ((HT1.out.no hOe).no hx2)
      have F12 := Lib.hid (keep (hOe.trans' hx2) F1.out)
      have L12 := Lib.hid (L1.out.only (hOe.trans' hx2) (fun _ _ h => h.elim))
      have F2 := Lib.hid (alloc_new we (.cells #[.int .i64 0, .slice A2 n2 m2] 24))
      have L2 := Lib.hid (hl2.only hx2 (fun _ _ h => h.elim))
      have O2 := Lib.hid (O1.out.trans' (hOe.trans' hx2))
      clear hl2 hOe hx2 F1 L1 O1 HT1
      go_wp2_with fail
      refine (get_calls B1 M1 fP 34 _ HT2.out.a (by omega) (by rw [hx34, p34]; simp [regOr])).mono ?_
      rintro e wf ⟨u, rfl, hu, hOf⟩
      rw [hx34, p34] at hu
      rw [hx34, p34]
      simp only [regOr, Option.getD_none, Option.isSome_none] at hu ⊢
      obtain ⟨A3, n3, m3, rfl, hl3⟩ := hu
      simp only at hl3 ⊢
      have hn3 := hl3.len
      simp only [List.length_nil] at hn3
      subst hn3
      have hx3 := (Only.refl No wf).alloc (.cells #[.int .i64 0, .slice A3 0 m3] 24)
      have HT3 := Lib.hid ((HT2.out.no hOf).no hx3)
      have f1 := keep (hOf.trans' hx3) F12.out
      have f2 := keep (hOf.trans' hx3) F2.out
      have L13 := Lib.hid (L12.out.only (hOf.trans' hx3) (fun _ _ h => h.elim))
      have L23 := Lib.hid (L2.out.only (hOf.trans' hx3) (fun _ _ h => h.elim))
      have O3 := Lib.hid (O2.out.trans' (hOf.trans' hx3))
      obtain ⟨x0, x1, _, _⟩ := reg_cells f1
      obtain ⟨y0, y1, _, _⟩ := reg_cells f2
      obtain ⟨v0, v1, _, _⟩ := reg_cells HT3.out.rr
      have v0 : _ = some (Value.int .i64 0) := v0
      have G2 := Lib.hid f2
      have hHB := HB.out.trans (((Only.refl No w4).drew).below (B := w.heap.size) HB.out.size (fun k h => h.elim))
      have hHB := hHB.trans (HOall.out.1.below (B := w.heap.size) hHB.size (fun k h => by omega))
      have hHB := hHB.trans (HOall.out.2.1.below (B := w.heap.size) hHB.size (fun k h => by omega))
      have hHB := hHB.trans (HOall.out.2.2.below (B := w.heap.size) hHB.size (fun k h => by omega))
      have hHB := hHB.trans (O3.out.below (B := w.heap.size) hHB.size (fun k h => h.elim))
      have HBB := Lib.hid hHB
      clear hHB hl3 hOf hx3 f1 f2 F12 F2 L12 L2 O2 O3 HT2
      go_wp2_with fail
      go_ret
      exact ⟨rfl, HBB.out⟩
    · skip
      have q0 : ((k : Int) == 0) = false := by rw [beq_eq_false_iff_ne]; omega
      have q1 : ((k : Int) == 34) = false := by rw [beq_eq_false_iff_ne]; omega
      have q2 : ((k : Int) == 95) = false := by rw [beq_eq_false_iff_ne]; omega
      simp only [if_true, Bool.false_eq_true, if_false] at y34 c34
      go_wp2_with fail
      refine (get_calls B2 M2 fY 34 _ HTc.out.b (by omega) (by rw [hx34, y34]; simp [regOr])).mono ?_
      rintro e wd ⟨u, rfl, hu, hOd⟩
      rw [hx34, y34] at hu
      rw [hx34, y34]
      simp only [regOr, Option.getD_none, Option.isSome_none] at hu ⊢
      obtain ⟨A1, n1, m1, rfl, hl1⟩ := hu
      simp only at hl1 ⊢
      have hx1 := (Only.refl No wd).alloc (.cells #[.int .i64 0, .slice A1 n1 m1] 24)
      have HT1 := Lib.hid ((HTc.out.no hOd).no hx1)
      have F1 := Lib.hid (alloc_new wd (.cells #[.int .i64 0, .slice A1 n1 m1] 24))
      have L1 := Lib.hid (hl1.only hx1 (fun _ _ h => h.elim))
      have O1 := Lib.hid (hOd.trans' hx1)
      clear hl1 hOd hx1
      go_wp2_with fail
      refine (get_calls B3 M3 fC 34 _ HT1.out.cc (by omega) (by rw [hx34, c34]; simp [regOr])).mono ?_
      rintro e we ⟨u, rfl, hu, hOe⟩
      rw [hx34, c34] at hu
      rw [hx34, c34]
      simp only [regOr, Option.getD_none, Option.isSome_none] at hu ⊢
      obtain ⟨A2, n2, m2, rfl, hl2⟩ := hu
      simp only at hl2 ⊢
      have hx2 := (Only.refl No we).alloc (.cells #[.int .i64 0, .slice A2 n2 m2] 24)
      have HT2 := Lib.hid ((HT1.out.no hOe).no hx2)
      have F12 := Lib.hid (keep (hOe.trans' hx2) F1.out)
      have L12 := Lib.hid (L1.out.only (hOe.trans' hx2) (fun _ _ h => h.elim))
      have F2 := Lib.hid (alloc_new we (.cells #[.int .i64 0, .slice A2 n2 m2] 24))
      have L2 := Lib.hid (hl2.only hx2 (fun _ _ h => h.elim))
      have O2 := Lib.hid (O1.out.trans' (hOe.trans' hx2))
      clear hl2 hOe hx2 F1 L1 O1 HT1
      go_wp2_with fail
      refine (get_calls B1 M1 fP 34 _ HT2.out.a (by omega) (by rw [hx34, p34]; simp [regOr])).mono ?_
      rintro e wf ⟨u, rfl, hu, hOf⟩
      rw [hx34, p34] at hu
      rw [hx34, p34]
      simp only [regOr, Option.getD_none, Option.isSome_none] at hu ⊢
      obtain ⟨A3, n3, m3, rfl, hl3⟩ := hu
      simp only at hl3 ⊢
      have hn3 := hl3.len
      simp only [List.length_nil] at hn3
      subst hn3
      have hx3 := (Only.refl No wf).alloc (.cells #[.int .i64 0, .slice A3 0 m3] 24)
      have HT3 := Lib.hid ((HT2.out.no hOf).no hx3)
      have f1 := keep (hOf.trans' hx3) F12.out
      have f2 := keep (hOf.trans' hx3) F2.out
      have L13 := Lib.hid (L12.out.only (hOf.trans' hx3) (fun _ _ h => h.elim))
      have L23 := Lib.hid (L2.out.only (hOf.trans' hx3) (fun _ _ h => h.elim))
      have O3 := Lib.hid (O2.out.trans' (hOf.trans' hx3))
      obtain ⟨x0, x1, _, _⟩ := reg_cells f1
      obtain ⟨y0, y1, _, _⟩ := reg_cells f2
      obtain ⟨v0, v1, _, _⟩ := reg_cells HT3.out.rr
      have v0 : _ = some (Value.int .i64 0) := v0
      have G2 := Lib.hid f2
      have hHB := HB.out.trans (((Only.refl No w4).drew).below (B := w.heap.size) HB.out.size (fun k h => h.elim))
      have hHB := hHB.trans (HOall.out.1.below (B := w.heap.size) hHB.size (fun k h => by omega))
      have hHB := hHB.trans (HOall.out.2.1.below (B := w.heap.size) hHB.size (fun k h => by omega))
      have hHB := hHB.trans (HOall.out.2.2.below (B := w.heap.size) hHB.size (fun k h => by omega))
      have hHB := hHB.trans (O3.out.below (B := w.heap.size) hHB.size (fun k h => h.elim))
      have HBB := Lib.hid hHB
      clear hHB hl3 hOf hx3 f1 f2 F12 F2 L12 L2 O2 O3 HT2
      go_wp2_with fail
      go_ret
      exact ⟨rfl, HBB.out⟩

theorem walk_any (w : World) (a : Int) (s : ByteArray) (ha : (Lit.int .u8 a).wf = true) (hs : s.size ≤ maxLen) :
    Calls Try.prog 7 #[.int .u8 a, .string s] w fun e w' => e = .returned (.bool true) ∧ Below w.heap.size w w' := by
  obtain ⟨h1, h2⟩ := bounds_u8 ha
  obtain ⟨k, rfl⟩ : ∃ k : Nat, a = (k : Int) := ⟨a.toNat, by omega⟩
  exact law_any k s w (by omega) (by unfold maxLen at hs; omega)

open Go.ChangeShapes Go.WideShapes Go.ChangeAt
open Go.ChangeMaps (open_string shut_string)
theorem own : ownKnob Try.prog.godebug = none := by kernel_rfl
set_option maxRecDepth 100000 in
theorem lifted (os : Os) (started : os.Started) (H : Type) (enc : TypeId × Value → H) :
    ReturnsInHanded {} Try.checked os 7 .any (Rows.regsNamesSpec.pre6 enc Try.prog Try.f7 Rows.regsNamesRow.domain false) (Rows.regsNamesSpec.post enc Try.prog Try.f7 false true false false) := by
  refine returnsInHanded_of_change_sized (C := Try.checked) own started (by kernel_rfl) Try.func7
    (ChangeSpec.witness6 (enc := enc) (C := Try.checked) false ⟨#[], #[.int .u8 0, .string ByteArray.empty], []⟩ 8 (by kernel_rfl) (by kernel_rfl) (by kernel_rfl) (by kernel_rfl)) ?_
  intro W base args ds gs before hval0 hW hcnd hsz0 _
  have hsz : (DataW.weightsEach Try.prog (Try.f7.params.toList ++ Rows.regsNamesSpec.plain.varTypes Try.prog) (ds ++ gs)).all (· ≤ reachBytes) = true := hsz0
  have hval : ∀ (j : Nat) t v, Try.f7.params[j]? = some t → args[j]? = some v → Value.okWide Try.prog W .any base t v := hval0
  have hW' := hW
  obtain ⟨p, q, hA0, hV, rfl, hfz, hnd⟩ := hW
  have hA : DataW.TrodAll enc Try.prog W 0 (fun _ => true) true Try.f7.params.toList args.toList ds p := hA0
  rw [Try.params7] at hA hval hsz
  obtain ⟨v0, vs0, d0, ds0, p0, q0, hargs, rfl, rfl, h0, r0⟩ := trodAll_cons hA
  obtain ⟨v1, vs1, d1, ds1, p1, q1, rfl, rfl, rfl, h1, r1⟩ := trodAll_cons r0
  obtain ⟨rfl, rfl, rfl⟩ := trodAll_nil r1
  obtain rfl : args = #[v0, v1] := by cases args; simp_all
  obtain ⟨rfl, rfl⟩ := trodVars_none hV
  obtain ⟨a0, rfl, rfl, rfl, w0⟩ := open_int Try.underlying5 (hval 0 5 v0 rfl rfl) h0
  obtain ⟨a1, rfl, rfl, rfl, y1⟩ := open_string Try.underlying9 (hval 1 9 v1 rfl rfl) h1
  clear hA0 hval0 hsz0
  refine (walk_any W _ _ w0 y1).mono fun e W' ⟨he, bel⟩ => ?_
  subst he
  exact ⟨_, rfl, _, _, _, [], _, [], hW', trodAll_mk1 (shut_bool Try.underlying4 _), (trodAll_cons_mk (shut_int Try.underlying5 w0) (trodAll_cons_mk (shut_string Try.underlying9 y1) trodAll_mk0)), rfl, bel.frame _, fun h => by cases h⟩
theorem over : Rows.regsNamesRow.holds Try.pinned (OpenSpec.ofChange Rows.regsNamesSpec) :=
  OpenClaim.holds_of_wide 7 Try.f7 rfl rfl rfl rfl rfl rfl rfl ⟨rfl, rfl, rfl, rfl, rfl⟩ rfl rfl rfl rfl rfl (by kernel_rfl) Try.func7 (by kernel_rfl)
    (of_decide_eq_true (by kernel_rfl)) (by unfold Func.isWrapper; first | (rw [if_pos (by decide +kernel)]; kernel_rfl) | (rw [if_neg (by decide +kernel)]; exact ⟨rfl, rfl⟩))
    (fun os started H enc _ => lifted os started H enc)
end Go.Proofs.Ytgdlplkeafeblaa.regsNames
namespace Go.Proofs.Ytgdlplkeafeblaa
theorem regsNames_holds : Rows.RegsNamesSaid := regsNames.over
#print axioms regsNames_holds
end Go.Proofs.Ytgdlplkeafeblaa
