/- RegsLimit: just how great a register may be, put or added to, and what would be greater changes nothing; proved for every input, under nil condition. -/
import Derived.Test.YtgdlplkeafeblaaRows
import Derived.Test.YtgdlplkeafeblaaRegsKnown
import Derived.Test.YtgdlplkeafeblaaArgs2
import Derived.Test.YtgdlplkeafeblaaSt
import Derived.Laws.BytesString
import Derived.Laws.BytesArg
import Derived.Deep.OwnRows
import Derived.WalkKit
import Derived.IntWalk
import Derived.ProofKit
import Derived.OpenShut
import Derived.ChangeOld
import Derived.SizedLaws
namespace Go.Proofs.Ytgdlplkeafeblaa.regsLimit
open Go.RowKit Go.Shelf Go.Proofs.Ytgdlplkeafeblaa.MapRaw Go.Proofs.Ytgdlplkeafeblaa.Frm Go.Proofs.Ytgdlplkeafeblaa.Lns Go.Proofs.Ytgdlplkeafeblaa.Rg Go.Proofs.Ytgdlplkeafeblaa.Arg
set_option linter.unusedVariables false
set_option linter.unusedSimpArgs false

/-- The string of bytes. -/
def ofInts (ns : List Int) : ByteArray := ns.foldl (fun r n => r.push (UInt8.ofNat n.toNat)) ByteArray.empty
theorem ofInts_size (ns : List Int) : (ofInts ns).size = ns.length := by
  unfold ofInts
  rw [foldl_push_bytes]
  have : ∀ (l : List UInt8), (⟨ByteArray.empty.data ++ l.toArray⟩ : ByteArray).size = l.length := fun l => by
    show (ByteArray.empty.data ++ l.toArray).size = l.length
    rw [Array.size_append]
    simp [ByteArray.empty, ByteArray.emptyWithCapacity]
    first | done | rfl
  rw [this, List.length_map]
theorem infoByte : (Try.prog.info? 5).map (fun i => (i.zero, i.size, i.bytes)) = some (some (.int .u8 0), 1, 1) := by kernel_rfl
theorem made_eq (k : Nat) : madeCells #[.int .u8 0] k = ((List.replicate k (0 : Int)).map (Value.int .u8)).toArray := by
  unfold madeCells
  apply Array.ext
  · simp
  · intro i h1 h2
    simp [Nat.mod_one]
theorem run_zeros (w : World) (k : Nat) : (convert 34 9 (.slice (some ⟨w.heap.size, 0, none⟩) k k)).run Try.prog (w.alloc (.cells (madeCells #[.int .u8 0] k) 5)) = .ok (.string (ofInts (List.replicate k 0))) (w.alloc (.cells (madeCells #[.int .u8 0] k) 5)) := by
  have hl := run_loadCells_list (P := Try.prog) (w := w.alloc (.cells (madeCells #[.int .u8 0] k) 5)) ⟨w.heap.size, 0, none⟩ ((List.replicate k (0 : Int)).map (Value.int .u8)) (fun j v hj => by
    rw [add_plain, cell_new, Nat.zero_add, made_eq]
    rw [List.getElem?_toArray]; exact hj)
  rw [List.length_map, List.length_replicate] at hl
  rw [run_convert_bytes_string _ 34 9 5 _ _ _ Try.underlying34 Try.underlying5 Try.underlying9, run_bytesToString _ _ k k (List.replicate k 0) hl]
  rfl
def xy : ByteArray := ⟨#[120, 121]⟩
def nil : Nat → Option Reg := fun _ => none
def fxy : Nat → Option Reg := putF nil 97 (0, [xy])
theorem fxy_97 : fxy 97 = some (0, [xy]) := by decide +kernel
theorem exy : putE nil 97 (0, [xy]) = 0 := by decide +kernel

/-- What a name that is written to holds behind a first yank. -/
theorem first {c : Nat} (hc : c = 0 ∨ c = 97 ∨ c = 34 ∨ c = 66) (s : ByteArray) (f' : Nat → Option Reg) :
    (s.size + 1 ≤ 4096 → setE nil c (0, [s]) = 0 ∧ setF nil (updR nil 48 (some (0, [s]))) c (0, [s]) (Rg.keyOf c) = some (0, [s])) ∧ (¬ s.size + 1 ≤ 4096 → setE nil c (0, [s]) = 21 ∧ setF nil (updR nil 48 (some (0, [s]))) c (0, [s]) (Rg.keyOf c) = none) := by
  have hs : sizeL ((0, [s]) : Reg).2 = s.size + 1 := by simp [sizeL_cons, sizeL_nil]
  have hput : ∀ c, c = 97 ∨ c = 66 → nowR nil c (0, [s]) = (0, [s]) ∧ isLetter c = true ∧ isPlain c = false := by
    intro c hc
    rcases hc with rfl | rfl
    · exact ⟨rfl, rfl, rfl⟩
    · exact ⟨rfl, rfl, rfl⟩
  constructor
  · intro h
    rcases hc with rfl | rfl | rfl | rfl
    · refine ⟨?_, ?_⟩
      · unfold setE; rw [if_neg (by omega), if_pos (show isPlain 0 = true from rfl), if_neg (by omega)]
      · unfold setF; rw [if_neg (by omega), if_pos (show isPlain 0 = true from rfl), if_neg (by omega)]; rfl
    · obtain ⟨h1, h2, h3⟩ := hput 97 (by omega)
      have e : putE nil 97 (0, [s]) = 0 := by unfold putE; rw [if_pos h2, h1, if_neg (by omega)]
      refine ⟨?_, ?_⟩
      · unfold setE; rw [if_neg (by omega), h3]; exact e
      · unfold setF; rw [if_neg (by omega), h3]; simp only [Bool.false_eq_true, if_false, e, if_true]; unfold putF; rw [if_pos e, h1]; rfl
    · refine ⟨?_, ?_⟩
      · unfold setE; rw [if_neg (by omega), if_pos (show isPlain 34 = true from rfl), if_neg (by omega)]
      · unfold setF; rw [if_neg (by omega), if_pos (show isPlain 34 = true from rfl), if_neg (by omega)]; rfl
    · obtain ⟨h1, h2, h3⟩ := hput 66 (by omega)
      have e : putE nil 66 (0, [s]) = 0 := by unfold putE; rw [if_pos h2, h1, if_neg (by omega)]
      refine ⟨?_, ?_⟩
      · unfold setE; rw [if_neg (by omega), h3]; exact e
      · unfold setF; rw [if_neg (by omega), h3]; simp only [Bool.false_eq_true, if_false, e, if_true]; unfold putF; rw [if_pos e, h1]; rfl
  · intro h
    rcases hc with rfl | rfl | rfl | rfl
    · refine ⟨?_, ?_⟩
      · unfold setE; rw [if_neg (by omega), if_pos (show isPlain 0 = true from rfl), if_pos (by omega)]
      · unfold setF; rw [if_neg (by omega), if_pos (show isPlain 0 = true from rfl), if_pos (by omega)]; rfl
    · obtain ⟨h1, h2, h3⟩ := hput 97 (by omega)
      have e : putE nil 97 (0, [s]) = 21 := by unfold putE; rw [if_pos h2, h1, if_pos (by omega)]
      refine ⟨?_, ?_⟩
      · unfold setE; rw [if_neg (by omega), h3]; exact e
      · unfold setF; rw [if_neg (by omega), h3, e]; rfl
    · refine ⟨?_, ?_⟩
      · unfold setE; rw [if_neg (by omega), if_pos (show isPlain 34 = true from rfl), if_pos (by omega)]
      · unfold setF; rw [if_neg (by omega), if_pos (show isPlain 34 = true from rfl), if_pos (by omega)]; rfl
    · obtain ⟨h1, h2, h3⟩ := hput 66 (by omega)
      have e : putE nil 66 (0, [s]) = 21 := by unfold putE; rw [if_pos h2, h1, if_pos (by omega)]
      refine ⟨?_, ?_⟩
      · unfold setE; rw [if_neg (by omega), h3]; exact e
      · unfold setF; rw [if_neg (by omega), h3, e]; rfl
theorem second (s : ByteArray) :
    (s.size + 3 ≤ 4096 → setE fxy 65 (0, [s]) = 0 ∧ setF fxy (updR fxy 48 (some (0, [s]))) 65 (0, [s]) (Rg.keyOf 65) = some (0, [xy ++ s])) ∧ (¬ s.size + 3 ≤ 4096 → setE fxy 65 (0, [s]) = 21 ∧ setF fxy (updR fxy 48 (some (0, [s]))) 65 (0, [s]) (Rg.keyOf 65) = some (0, [xy])) := by
  have hs : sizeL [xy ++ s] = s.size + 3 := by rw [sizeL_cons, sizeL_nil, ByteArray.size_append, show xy.size = 2 from rfl]; omega
  have hn : nowR fxy 65 (0, [s]) = (0, [xy ++ s]) := by
    unfold nowR
    rw [if_pos (by rfl), show (65 + 32 : Nat) = 97 from rfl, fxy_97]
    simp [join, lat]
  have h2 : isLetter 65 = true := rfl
  have h3 : isPlain 65 = false := rfl
  have hk : Rg.keyOf 65 = 97 := rfl
  rw [hk]
  constructor
  · intro h
    have e : putE fxy 65 (0, [s]) = 0 := by unfold putE; rw [if_pos h2, hn, if_neg (by rw [hs]; omega)]
    refine ⟨?_, ?_⟩
    · unfold setE; rw [if_neg (by omega), h3]; exact e
    · unfold setF; rw [if_neg (by omega), h3]; simp only [Bool.false_eq_true, if_false, e, if_true]; unfold putF; rw [if_pos e, hn]; rfl
  · intro h
    have e : putE fxy 65 (0, [s]) = 21 := by unfold putE; rw [if_pos h2, hn, if_pos (by rw [hs]; omega)]
    refine ⟨?_, ?_⟩
    · unfold setE; rw [if_neg (by omega), h3]; exact e
    · unfold setF; rw [if_neg (by omega), h3, e]; exact fxy_97

set_option maxHeartbeats 8000000 in
set_option maxRecDepth 100000 in
theorem law_any (n nm : Nat) (again : Bool) (w : World) (hn : n < 256) (hnm : nm < 256) :
    Calls Try.prog 6 #[.int .u8 (n : Int), .int .u8 (nm : Int), .bool again] w fun e w' => e = .returned (.bool true) ∧ Below w.heap.size w w' := by
  obtain ⟨kk, hkk⟩ : ∃ kk : Nat, kk = 4093 + n % 5 := ⟨_, rfl⟩
  have hki : (4093 + (n : Int) % 5) = (kk : Int) := by omega
  have hk1 : 4093 ≤ kk := by omega
  have hk2 : kk ≤ 4097 := by omega
  have hmk : ∀ w : World, (Instr.makeSlice 34 (.int .i64 (4093 + (n : Int) % 5)) (.int .i64 (4093 + (n : Int) % 5))).run Try.prog w = .ok (.slice (some ⟨w.heap.size, 0, none⟩) kk kk) (w.alloc (.cells (madeCells #[.int .u8 0] kk) 5)) := by
    intro w
    rw [hki]
    exact run_make_row' 34 5 (.int .u8 0) 1 Try.underlying34 infoByte rfl .i64 .i64 kk (by omega) (by omega) w
  have hconv := fun w => run_zeros w kk
  obtain ⟨zs, hzs⟩ : ∃ zs, ofInts (List.replicate kk 0) = zs := ⟨_, rfl⟩
  have hsz : zs.size = kk := by rw [← hzs, ofInts_size, List.length_replicate]
  simp only [hzs] at hconv
  have HK := Lib.hid hki
  have HSZ := Lib.hid hsz
  clear hzs hki hsz hkk
  have h4 : (nm : Int) % 4 = 0 ∨ (nm : Int) % 4 = 1 ∨ (nm : Int) % 4 = 2 ∨ (nm : Int) % 4 = 3 := by omega
  cases again
  · have h5 : ∃ c : Nat, (c = 0 ∨ c = 97 ∨ c = 34 ∨ c = 66) ∧ (((nm : Int) % 4 = 0 ∧ c = 0) ∨ ((nm : Int) % 4 = 1 ∧ c = 97) ∨ ((nm : Int) % 4 = 2 ∧ c = 34) ∨ ((nm : Int) % 4 = 3 ∧ c = 66)) := by
      rcases h4 with h | h | h | h
      · exact ⟨0, by omega, .inl ⟨h, rfl⟩⟩
      · exact ⟨97, by omega, .inr (.inl ⟨h, rfl⟩)⟩
      · exact ⟨34, by omega, .inr (.inr (.inl ⟨h, rfl⟩))⟩
      · exact ⟨66, by omega, .inr (.inr (.inr ⟨h, rfl⟩))⟩
    clear h4
    obtain ⟨c, hc, h5⟩ := h5
    have hfst := first hc zs
    have hcl : c < 256 := by omega
    have HF := Lib.hid hfst
    clear hfst hc
    rcases h5 with ⟨h4, rfl⟩ | ⟨h4, rfl⟩ | ⟨h4, rfl⟩ | ⟨h4, rfl⟩
    · go_enter Try.func6, Try.ntmps6
      go_wp2_with (go_at_call 10; refine (known_calls _).mono ?_; rintro e w1 ⟨rfl, hb⟩)
      refine (new_st w w1 hb).mono ?_
      rintro e w2 ⟨B, M, rfl, hS⟩
      have hS : St w w2 B M nil [] := hS
      have HS := Lib.hid (((((hS.alloc (madeCells #[.int .u8 0] kk) 5).alloc #[.string zs] 9).add (x := .lines (some ⟨w2.heap.size + 1, 0, none⟩) 1 1 [zs]) (lines_one (by simp))).alloc #[.int .i64 0, .slice (some ⟨w2.heap.size + 1, 0, none⟩) 1 1] 24).alloc #[.int .u8 0, .int .u8 97, .int .u8 34, .int .u8 66] 5)
      clear hS hb
      go_wp2_with fail
      refine (yank_st 0 (0, [zs]) _ HS.out HS.out.i2 (by omega) (by rw [sizeL_cons, sizeL_nil, HSZ.out]; omega)).mono ?_
      rintro e wy ⟨rfl, hSy⟩
      by_cases hk : zs.size + 1 ≤ 4096
      · obtain ⟨q1, q2⟩ := HF.out (updR nil 48 (some (0, [zs]))) |>.1 hk
        rw [q1]
        have hk3 : 4093 + (n : Int) % 5 + 1 ≤ 4096 := by have := HSZ.out; have := HK.out; omega
        have hk4 : ((zs.size : Int) == 4093 + (n : Int) % 5) = true := by rw [beq_iff_eq, HK.out, HSZ.out]
        generalize setF nil (updR nil 48 (some (0, [zs]))) 0 (0, [zs]) = f5 at *
        have HSy := Lib.hid hSy
        have HQ := Lib.hid q2
        clear hSy HS q1 q2
        go_wp2_with fail
        refine (get_st 0 _ HSy.out (by omega)).mono ?_
        rintro e wa ⟨A1, n1, c1, rfl, hSa⟩
        rw [HQ.out] at hSa ⊢
        simp only [regOr, Option.getD_some, Option.isSome_some] at hSa ⊢
        obtain rfl : n1 = 1 := Lines.len hSa.i0
        obtain ⟨b, off, rfl, hbb, hcell⟩ := Lines.at hSa.i0 (show 0 < 1 by omega)
        rw [show lat [zs] 0 = zs from rfl, Nat.add_zero] at hcell
        have HSa := Lib.hid (hSa.alloc #[.int .i64 0, .slice (some ⟨b, off, none⟩) 1 c1] 24)
        clear hSa HSy
        go_wp2_with fail
        go_ret
        exact ⟨rfl, HSa.out.bel⟩
      · obtain ⟨q1, q2⟩ := HF.out (updR nil 48 (some (0, [zs]))) |>.2 hk
        rw [q1]
        have hk3 : ¬ 4093 + (n : Int) % 5 + 1 ≤ 4096 := by have := HSZ.out; have := HK.out; omega
        generalize setF nil (updR nil 48 (some (0, [zs]))) 0 (0, [zs]) = f5 at *
        have HSy := Lib.hid hSy
        have HQ := Lib.hid q2
        clear hSy HS q1 q2
        go_wp2_with fail
        refine (get_st 0 _ HSy.out (by omega)).mono ?_
        rintro e wa ⟨A1, n1, c1, rfl, hSa⟩
        rw [HQ.out] at hSa ⊢
        simp only [regOr, Option.getD_none, Option.isSome_none] at hSa ⊢
        obtain rfl : n1 = 0 := Lines.len hSa.i0
        have HSa := Lib.hid (hSa.alloc #[.int .i64 0, .slice A1 0 c1] 24)
        clear hSa HSy
        go_wp2_with fail
        go_ret
        exact ⟨rfl, HSa.out.bel⟩
    · go_enter Try.func6, Try.ntmps6
      go_wp2_with (go_at_call 10; refine (known_calls _).mono ?_; rintro e w1 ⟨rfl, hb⟩)
      refine (new_st w w1 hb).mono ?_
      rintro e w2 ⟨B, M, rfl, hS⟩
      have hS : St w w2 B M nil [] := hS
      have HS := Lib.hid (((((hS.alloc (madeCells #[.int .u8 0] kk) 5).alloc #[.string zs] 9).add (x := .lines (some ⟨w2.heap.size + 1, 0, none⟩) 1 1 [zs]) (lines_one (by simp))).alloc #[.int .i64 0, .slice (some ⟨w2.heap.size + 1, 0, none⟩) 1 1] 24).alloc #[.int .u8 0, .int .u8 97, .int .u8 34, .int .u8 66] 5)
      clear hS hb
      go_wp2_with fail
      refine (yank_st 97 (0, [zs]) _ HS.out HS.out.i2 (by omega) (by rw [sizeL_cons, sizeL_nil, HSZ.out]; omega)).mono ?_
      rintro e wy ⟨rfl, hSy⟩
      by_cases hk : zs.size + 1 ≤ 4096
      · obtain ⟨q1, q2⟩ := HF.out (updR nil 48 (some (0, [zs]))) |>.1 hk
        rw [q1]
        have hk3 : 4093 + (n : Int) % 5 + 1 ≤ 4096 := by have := HSZ.out; have := HK.out; omega
        have hk4 : ((zs.size : Int) == 4093 + (n : Int) % 5) = true := by rw [beq_iff_eq, HK.out, HSZ.out]
        generalize setF nil (updR nil 48 (some (0, [zs]))) 97 (0, [zs]) = f5 at *
        have HSy := Lib.hid hSy
        have HQ := Lib.hid q2
        clear hSy HS q1 q2
        go_wp2_with fail
        refine (get_st 97 _ HSy.out (by omega)).mono ?_
        rintro e wa ⟨A1, n1, c1, rfl, hSa⟩
        rw [HQ.out] at hSa ⊢
        simp only [regOr, Option.getD_some, Option.isSome_some] at hSa ⊢
        obtain rfl : n1 = 1 := Lines.len hSa.i0
        obtain ⟨b, off, rfl, hbb, hcell⟩ := Lines.at hSa.i0 (show 0 < 1 by omega)
        rw [show lat [zs] 0 = zs from rfl, Nat.add_zero] at hcell
        have HSa := Lib.hid (hSa.alloc #[.int .i64 0, .slice (some ⟨b, off, none⟩) 1 c1] 24)
        clear hSa HSy
        go_wp2_with fail
        go_ret
        exact ⟨rfl, HSa.out.bel⟩
      · obtain ⟨q1, q2⟩ := HF.out (updR nil 48 (some (0, [zs]))) |>.2 hk
        rw [q1]
        have hk3 : ¬ 4093 + (n : Int) % 5 + 1 ≤ 4096 := by have := HSZ.out; have := HK.out; omega
        generalize setF nil (updR nil 48 (some (0, [zs]))) 97 (0, [zs]) = f5 at *
        have HSy := Lib.hid hSy
        have HQ := Lib.hid q2
        clear hSy HS q1 q2
        go_wp2_with fail
        refine (get_st 97 _ HSy.out (by omega)).mono ?_
        rintro e wa ⟨A1, n1, c1, rfl, hSa⟩
        rw [HQ.out] at hSa ⊢
        simp only [regOr, Option.getD_none, Option.isSome_none] at hSa ⊢
        obtain rfl : n1 = 0 := Lines.len hSa.i0
        have HSa := Lib.hid (hSa.alloc #[.int .i64 0, .slice A1 0 c1] 24)
        clear hSa HSy
        go_wp2_with fail
        go_ret
        exact ⟨rfl, HSa.out.bel⟩
    · go_enter Try.func6, Try.ntmps6
      go_wp2_with (go_at_call 10; refine (known_calls _).mono ?_; rintro e w1 ⟨rfl, hb⟩)
      refine (new_st w w1 hb).mono ?_
      rintro e w2 ⟨B, M, rfl, hS⟩
      have hS : St w w2 B M nil [] := hS
      have HS := Lib.hid (((((hS.alloc (madeCells #[.int .u8 0] kk) 5).alloc #[.string zs] 9).add (x := .lines (some ⟨w2.heap.size + 1, 0, none⟩) 1 1 [zs]) (lines_one (by simp))).alloc #[.int .i64 0, .slice (some ⟨w2.heap.size + 1, 0, none⟩) 1 1] 24).alloc #[.int .u8 0, .int .u8 97, .int .u8 34, .int .u8 66] 5)
      clear hS hb
      go_wp2_with fail
      refine (yank_st 34 (0, [zs]) _ HS.out HS.out.i2 (by omega) (by rw [sizeL_cons, sizeL_nil, HSZ.out]; omega)).mono ?_
      rintro e wy ⟨rfl, hSy⟩
      by_cases hk : zs.size + 1 ≤ 4096
      · obtain ⟨q1, q2⟩ := HF.out (updR nil 48 (some (0, [zs]))) |>.1 hk
        rw [q1]
        have hk3 : 4093 + (n : Int) % 5 + 1 ≤ 4096 := by have := HSZ.out; have := HK.out; omega
        have hk4 : ((zs.size : Int) == 4093 + (n : Int) % 5) = true := by rw [beq_iff_eq, HK.out, HSZ.out]
        generalize setF nil (updR nil 48 (some (0, [zs]))) 34 (0, [zs]) = f5 at *
        have HSy := Lib.hid hSy
        have HQ := Lib.hid q2
        clear hSy HS q1 q2
        go_wp2_with fail
        refine (get_st 34 _ HSy.out (by omega)).mono ?_
        rintro e wa ⟨A1, n1, c1, rfl, hSa⟩
        rw [HQ.out] at hSa ⊢
        simp only [regOr, Option.getD_some, Option.isSome_some] at hSa ⊢
        obtain rfl : n1 = 1 := Lines.len hSa.i0
        obtain ⟨b, off, rfl, hbb, hcell⟩ := Lines.at hSa.i0 (show 0 < 1 by omega)
        rw [show lat [zs] 0 = zs from rfl, Nat.add_zero] at hcell
        have HSa := Lib.hid (hSa.alloc #[.int .i64 0, .slice (some ⟨b, off, none⟩) 1 c1] 24)
        clear hSa HSy
        go_wp2_with fail
        go_ret
        exact ⟨rfl, HSa.out.bel⟩
      · obtain ⟨q1, q2⟩ := HF.out (updR nil 48 (some (0, [zs]))) |>.2 hk
        rw [q1]
        have hk3 : ¬ 4093 + (n : Int) % 5 + 1 ≤ 4096 := by have := HSZ.out; have := HK.out; omega
        generalize setF nil (updR nil 48 (some (0, [zs]))) 34 (0, [zs]) = f5 at *
        have HSy := Lib.hid hSy
        have HQ := Lib.hid q2
        clear hSy HS q1 q2
        go_wp2_with fail
        refine (get_st 34 _ HSy.out (by omega)).mono ?_
        rintro e wa ⟨A1, n1, c1, rfl, hSa⟩
        rw [HQ.out] at hSa ⊢
        simp only [regOr, Option.getD_none, Option.isSome_none] at hSa ⊢
        obtain rfl : n1 = 0 := Lines.len hSa.i0
        have HSa := Lib.hid (hSa.alloc #[.int .i64 0, .slice A1 0 c1] 24)
        clear hSa HSy
        go_wp2_with fail
        go_ret
        exact ⟨rfl, HSa.out.bel⟩
    · go_enter Try.func6, Try.ntmps6
      go_wp2_with (go_at_call 10; refine (known_calls _).mono ?_; rintro e w1 ⟨rfl, hb⟩)
      refine (new_st w w1 hb).mono ?_
      rintro e w2 ⟨B, M, rfl, hS⟩
      have hS : St w w2 B M nil [] := hS
      have HS := Lib.hid (((((hS.alloc (madeCells #[.int .u8 0] kk) 5).alloc #[.string zs] 9).add (x := .lines (some ⟨w2.heap.size + 1, 0, none⟩) 1 1 [zs]) (lines_one (by simp))).alloc #[.int .i64 0, .slice (some ⟨w2.heap.size + 1, 0, none⟩) 1 1] 24).alloc #[.int .u8 0, .int .u8 97, .int .u8 34, .int .u8 66] 5)
      clear hS hb
      go_wp2_with fail
      refine (yank_st 66 (0, [zs]) _ HS.out HS.out.i2 (by omega) (by rw [sizeL_cons, sizeL_nil, HSZ.out]; omega)).mono ?_
      rintro e wy ⟨rfl, hSy⟩
      by_cases hk : zs.size + 1 ≤ 4096
      · obtain ⟨q1, q2⟩ := HF.out (updR nil 48 (some (0, [zs]))) |>.1 hk
        rw [q1]
        have hk3 : 4093 + (n : Int) % 5 + 1 ≤ 4096 := by have := HSZ.out; have := HK.out; omega
        have hk4 : ((zs.size : Int) == 4093 + (n : Int) % 5) = true := by rw [beq_iff_eq, HK.out, HSZ.out]
        generalize setF nil (updR nil 48 (some (0, [zs]))) 66 (0, [zs]) = f5 at *
        have HSy := Lib.hid hSy
        have HQ := Lib.hid q2
        clear hSy HS q1 q2
        go_wp2_with fail
        refine (get_st 66 _ HSy.out (by omega)).mono ?_
        rintro e wa ⟨A1, n1, c1, rfl, hSa⟩
        rw [HQ.out] at hSa ⊢
        simp only [regOr, Option.getD_some, Option.isSome_some] at hSa ⊢
        obtain rfl : n1 = 1 := Lines.len hSa.i0
        obtain ⟨b, off, rfl, hbb, hcell⟩ := Lines.at hSa.i0 (show 0 < 1 by omega)
        rw [show lat [zs] 0 = zs from rfl, Nat.add_zero] at hcell
        have HSa := Lib.hid (hSa.alloc #[.int .i64 0, .slice (some ⟨b, off, none⟩) 1 c1] 24)
        clear hSa HSy
        go_wp2_with fail
        go_ret
        exact ⟨rfl, HSa.out.bel⟩
      · obtain ⟨q1, q2⟩ := HF.out (updR nil 48 (some (0, [zs]))) |>.2 hk
        rw [q1]
        have hk3 : ¬ 4093 + (n : Int) % 5 + 1 ≤ 4096 := by have := HSZ.out; have := HK.out; omega
        generalize setF nil (updR nil 48 (some (0, [zs]))) 66 (0, [zs]) = f5 at *
        have HSy := Lib.hid hSy
        have HQ := Lib.hid q2
        clear hSy HS q1 q2
        go_wp2_with fail
        refine (get_st 66 _ HSy.out (by omega)).mono ?_
        rintro e wa ⟨A1, n1, c1, rfl, hSa⟩
        rw [HQ.out] at hSa ⊢
        simp only [regOr, Option.getD_none, Option.isSome_none] at hSa ⊢
        obtain rfl : n1 = 0 := Lines.len hSa.i0
        have HSa := Lib.hid (hSa.alloc #[.int .i64 0, .slice A1 0 c1] 24)
        clear hSa HSy
        go_wp2_with fail
        go_ret
        exact ⟨rfl, HSa.out.bel⟩
  · rcases h4 with h4 | h4 | h4 | h4
    · go_enter Try.func6, Try.ntmps6
      go_wp2_with (go_at_call 10; refine (known_calls _).mono ?_; rintro e w1 ⟨rfl, hb⟩)
      refine (new_st w w1 hb).mono ?_
      rintro e w2 ⟨B, M, rfl, hS⟩
      have hS : St w w2 B M nil [] := hS
      have HS := Lib.hid (((((((hS.alloc (madeCells #[.int .u8 0] kk) 5).alloc #[.string zs] 9).add (x := .lines (some ⟨w2.heap.size + 1, 0, none⟩) 1 1 [zs]) (lines_one (by simp))).alloc #[.int .i64 0, .slice (some ⟨w2.heap.size + 1, 0, none⟩) 1 1] 24).alloc #[.int .u8 0, .int .u8 97, .int .u8 34, .int .u8 66] 5).alloc #[.string xy] 9).add (x := .lines (some ⟨w2.heap.size + 1 + 1 + 1 + 1, 0, none⟩) 1 1 [xy]) (lines_one (by simp)))
      clear hS hb
      go_wp2_with fail
      refine (put_st 97 (0, [xy]) _ HS.out HS.out.i0 (by omega) (by rw [sizeL_cons, sizeL_nil, show xy.size = 2 from rfl]; omega)).mono ?_
      rintro e wp ⟨rfl, hSp⟩
      rw [show putE nil 97 (0, [xy]) = 0 from exy]
      have hSp : St w wp B M fxy _ := hSp
      obtain ⟨x0, x1, _, _⟩ := reg_cells (show wp.heap[w2.heap.size + 1 + 1]? = some (.cells #[.int .i64 0, .slice (some ⟨w2.heap.size + 1, 0, none⟩) 1 1] 24 (0, 0)) from by simpa [Fact.ok] using hSp.i3)
      have HSp := Lib.hid hSp
      clear HS hSp
      go_wp2_with fail
      refine (yank_st 65 (0, [zs]) _ HSp.out HSp.out.i4 (by omega) (by rw [sizeL_cons, sizeL_nil, HSZ.out]; omega)).mono ?_
      rintro e wy ⟨rfl, hSy⟩
      by_cases hk : zs.size + 3 ≤ 4096
      · obtain ⟨q1, q2⟩ := (second zs).1 hk
        rw [q1]
        have hk3 : 4093 + (n : Int) % 5 + 2 + 1 ≤ 4096 := by have := HSZ.out; have := HK.out; omega
        obtain ⟨ts, hts⟩ : ∃ ts, xy ++ zs = ts := ⟨_, rfl⟩
        have hk4 : ((ts.size : Int) == 4093 + (n : Int) % 5 + 2) = true := by rw [beq_iff_eq, HK.out, ← hts, ByteArray.size_append, HSZ.out, show xy.size = 2 from rfl]; omega
        rw [hts] at q2
        clear hts
        generalize setF fxy (updR fxy 48 (some (0, [zs]))) 65 (0, [zs]) = f5 at *
        have HSy := Lib.hid hSy
        have HQ := Lib.hid q2
        clear hSy HSp q1 q2 x0 x1
        go_wp2_with fail
        refine (get_st 65 _ HSy.out (by omega)).mono ?_
        rintro e wa ⟨A1, n1, c1, rfl, hSa⟩
        rw [HQ.out] at hSa ⊢
        simp only [regOr, Option.getD_some, Option.isSome_some] at hSa ⊢
        obtain rfl : n1 = 1 := Lines.len hSa.i0
        obtain ⟨b, off, rfl, hbb, hcell⟩ := Lines.at hSa.i0 (show 0 < 1 by omega)
        rw [show lat [ts] 0 = ts from rfl, Nat.add_zero] at hcell
        have HSa := Lib.hid (hSa.alloc #[.int .i64 0, .slice (some ⟨b, off, none⟩) 1 c1] 24)
        clear hSa HSy
        go_wp2_with fail
        go_ret
        exact ⟨rfl, HSa.out.bel⟩
      · obtain ⟨q1, q2⟩ := (second zs).2 hk
        rw [q1]
        have hk3 : ¬ 4093 + (n : Int) % 5 + 2 + 1 ≤ 4096 := by have := HSZ.out; have := HK.out; omega
        generalize setF fxy (updR fxy 48 (some (0, [zs]))) 65 (0, [zs]) = f5 at *
        have HSy := Lib.hid hSy
        have HQ := Lib.hid q2
        clear hSy HSp q1 q2 x0 x1
        go_wp2_with fail
        refine (get_st 65 _ HSy.out (by omega)).mono ?_
        rintro e wa ⟨A1, n1, c1, rfl, hSa⟩
        rw [HQ.out] at hSa ⊢
        simp only [regOr, Option.getD_some, Option.isSome_some] at hSa ⊢
        have HSa := Lib.hid (((hSa.alloc #[.int .i64 0, .slice A1 n1 c1] 24).alloc #[.string xy] 9).add (x := .lines (some ⟨wa.heap.size + 1, 0, none⟩) 1 1 [xy]) (lines_one (by simp)))
        clear hSa HSy
        go_wp2_with fail
        refine (strings_calls _ _ _ [xy] _ _ _ [xy] _ (HSa.out.fs (.lines A1 n1 c1 [xy]) (by simp)) HSa.out.i0).mono ?_
        rintro e wb ⟨rfl, hO⟩
        rw [decide_eq_true (rfl : [xy] = [xy])]
        have HS5 := Lib.hid (HSa.out.no hO)
        clear hO HSa
        go_wp2_with fail
        go_ret
        exact ⟨rfl, HS5.out.bel⟩
    · go_enter Try.func6, Try.ntmps6
      go_wp2_with (go_at_call 10; refine (known_calls _).mono ?_; rintro e w1 ⟨rfl, hb⟩)
      refine (new_st w w1 hb).mono ?_
      rintro e w2 ⟨B, M, rfl, hS⟩
      have hS : St w w2 B M nil [] := hS
      have HS := Lib.hid (((((((hS.alloc (madeCells #[.int .u8 0] kk) 5).alloc #[.string zs] 9).add (x := .lines (some ⟨w2.heap.size + 1, 0, none⟩) 1 1 [zs]) (lines_one (by simp))).alloc #[.int .i64 0, .slice (some ⟨w2.heap.size + 1, 0, none⟩) 1 1] 24).alloc #[.int .u8 0, .int .u8 97, .int .u8 34, .int .u8 66] 5).alloc #[.string xy] 9).add (x := .lines (some ⟨w2.heap.size + 1 + 1 + 1 + 1, 0, none⟩) 1 1 [xy]) (lines_one (by simp)))
      clear hS hb
      go_wp2_with fail
      refine (put_st 97 (0, [xy]) _ HS.out HS.out.i0 (by omega) (by rw [sizeL_cons, sizeL_nil, show xy.size = 2 from rfl]; omega)).mono ?_
      rintro e wp ⟨rfl, hSp⟩
      rw [show putE nil 97 (0, [xy]) = 0 from exy]
      have hSp : St w wp B M fxy _ := hSp
      obtain ⟨x0, x1, _, _⟩ := reg_cells (show wp.heap[w2.heap.size + 1 + 1]? = some (.cells #[.int .i64 0, .slice (some ⟨w2.heap.size + 1, 0, none⟩) 1 1] 24 (0, 0)) from by simpa [Fact.ok] using hSp.i3)
      have HSp := Lib.hid hSp
      clear HS hSp
      go_wp2_with fail
      refine (yank_st 65 (0, [zs]) _ HSp.out HSp.out.i4 (by omega) (by rw [sizeL_cons, sizeL_nil, HSZ.out]; omega)).mono ?_
      rintro e wy ⟨rfl, hSy⟩
      by_cases hk : zs.size + 3 ≤ 4096
      · obtain ⟨q1, q2⟩ := (second zs).1 hk
        rw [q1]
        have hk3 : 4093 + (n : Int) % 5 + 2 + 1 ≤ 4096 := by have := HSZ.out; have := HK.out; omega
        obtain ⟨ts, hts⟩ : ∃ ts, xy ++ zs = ts := ⟨_, rfl⟩
        have hk4 : ((ts.size : Int) == 4093 + (n : Int) % 5 + 2) = true := by rw [beq_iff_eq, HK.out, ← hts, ByteArray.size_append, HSZ.out, show xy.size = 2 from rfl]; omega
        rw [hts] at q2
        clear hts
        generalize setF fxy (updR fxy 48 (some (0, [zs]))) 65 (0, [zs]) = f5 at *
        have HSy := Lib.hid hSy
        have HQ := Lib.hid q2
        clear hSy HSp q1 q2 x0 x1
        go_wp2_with fail
        refine (get_st 65 _ HSy.out (by omega)).mono ?_
        rintro e wa ⟨A1, n1, c1, rfl, hSa⟩
        rw [HQ.out] at hSa ⊢
        simp only [regOr, Option.getD_some, Option.isSome_some] at hSa ⊢
        obtain rfl : n1 = 1 := Lines.len hSa.i0
        obtain ⟨b, off, rfl, hbb, hcell⟩ := Lines.at hSa.i0 (show 0 < 1 by omega)
        rw [show lat [ts] 0 = ts from rfl, Nat.add_zero] at hcell
        have HSa := Lib.hid (hSa.alloc #[.int .i64 0, .slice (some ⟨b, off, none⟩) 1 c1] 24)
        clear hSa HSy
        go_wp2_with fail
        go_ret
        exact ⟨rfl, HSa.out.bel⟩
      · obtain ⟨q1, q2⟩ := (second zs).2 hk
        rw [q1]
        have hk3 : ¬ 4093 + (n : Int) % 5 + 2 + 1 ≤ 4096 := by have := HSZ.out; have := HK.out; omega
        generalize setF fxy (updR fxy 48 (some (0, [zs]))) 65 (0, [zs]) = f5 at *
        have HSy := Lib.hid hSy
        have HQ := Lib.hid q2
        clear hSy HSp q1 q2 x0 x1
        go_wp2_with fail
        refine (get_st 65 _ HSy.out (by omega)).mono ?_
        rintro e wa ⟨A1, n1, c1, rfl, hSa⟩
        rw [HQ.out] at hSa ⊢
        simp only [regOr, Option.getD_some, Option.isSome_some] at hSa ⊢
        have HSa := Lib.hid (((hSa.alloc #[.int .i64 0, .slice A1 n1 c1] 24).alloc #[.string xy] 9).add (x := .lines (some ⟨wa.heap.size + 1, 0, none⟩) 1 1 [xy]) (lines_one (by simp)))
        clear hSa HSy
        go_wp2_with fail
        refine (strings_calls _ _ _ [xy] _ _ _ [xy] _ (HSa.out.fs (.lines A1 n1 c1 [xy]) (by simp)) HSa.out.i0).mono ?_
        rintro e wb ⟨rfl, hO⟩
        rw [decide_eq_true (rfl : [xy] = [xy])]
        have HS5 := Lib.hid (HSa.out.no hO)
        clear hO HSa
        go_wp2_with fail
        go_ret
        exact ⟨rfl, HS5.out.bel⟩
    · go_enter Try.func6, Try.ntmps6
      go_wp2_with (go_at_call 10; refine (known_calls _).mono ?_; rintro e w1 ⟨rfl, hb⟩)
      refine (new_st w w1 hb).mono ?_
      rintro e w2 ⟨B, M, rfl, hS⟩
      have hS : St w w2 B M nil [] := hS
      have HS := Lib.hid (((((((hS.alloc (madeCells #[.int .u8 0] kk) 5).alloc #[.string zs] 9).add (x := .lines (some ⟨w2.heap.size + 1, 0, none⟩) 1 1 [zs]) (lines_one (by simp))).alloc #[.int .i64 0, .slice (some ⟨w2.heap.size + 1, 0, none⟩) 1 1] 24).alloc #[.int .u8 0, .int .u8 97, .int .u8 34, .int .u8 66] 5).alloc #[.string xy] 9).add (x := .lines (some ⟨w2.heap.size + 1 + 1 + 1 + 1, 0, none⟩) 1 1 [xy]) (lines_one (by simp)))
      clear hS hb
      go_wp2_with fail
      refine (put_st 97 (0, [xy]) _ HS.out HS.out.i0 (by omega) (by rw [sizeL_cons, sizeL_nil, show xy.size = 2 from rfl]; omega)).mono ?_
      rintro e wp ⟨rfl, hSp⟩
      rw [show putE nil 97 (0, [xy]) = 0 from exy]
      have hSp : St w wp B M fxy _ := hSp
      obtain ⟨x0, x1, _, _⟩ := reg_cells (show wp.heap[w2.heap.size + 1 + 1]? = some (.cells #[.int .i64 0, .slice (some ⟨w2.heap.size + 1, 0, none⟩) 1 1] 24 (0, 0)) from by simpa [Fact.ok] using hSp.i3)
      have HSp := Lib.hid hSp
      clear HS hSp
      go_wp2_with fail
      refine (yank_st 65 (0, [zs]) _ HSp.out HSp.out.i4 (by omega) (by rw [sizeL_cons, sizeL_nil, HSZ.out]; omega)).mono ?_
      rintro e wy ⟨rfl, hSy⟩
      by_cases hk : zs.size + 3 ≤ 4096
      · obtain ⟨q1, q2⟩ := (second zs).1 hk
        rw [q1]
        have hk3 : 4093 + (n : Int) % 5 + 2 + 1 ≤ 4096 := by have := HSZ.out; have := HK.out; omega
        obtain ⟨ts, hts⟩ : ∃ ts, xy ++ zs = ts := ⟨_, rfl⟩
        have hk4 : ((ts.size : Int) == 4093 + (n : Int) % 5 + 2) = true := by rw [beq_iff_eq, HK.out, ← hts, ByteArray.size_append, HSZ.out, show xy.size = 2 from rfl]; omega
        rw [hts] at q2
        clear hts
        generalize setF fxy (updR fxy 48 (some (0, [zs]))) 65 (0, [zs]) = f5 at *
        have HSy := Lib.hid hSy
        have HQ := Lib.hid q2
        clear hSy HSp q1 q2 x0 x1
        go_wp2_with fail
        refine (get_st 65 _ HSy.out (by omega)).mono ?_
        rintro e wa ⟨A1, n1, c1, rfl, hSa⟩
        rw [HQ.out] at hSa ⊢
        simp only [regOr, Option.getD_some, Option.isSome_some] at hSa ⊢
        obtain rfl : n1 = 1 := Lines.len hSa.i0
        obtain ⟨b, off, rfl, hbb, hcell⟩ := Lines.at hSa.i0 (show 0 < 1 by omega)
        rw [show lat [ts] 0 = ts from rfl, Nat.add_zero] at hcell
        have HSa := Lib.hid (hSa.alloc #[.int .i64 0, .slice (some ⟨b, off, none⟩) 1 c1] 24)
        clear hSa HSy
        go_wp2_with fail
        go_ret
        exact ⟨rfl, HSa.out.bel⟩
      · obtain ⟨q1, q2⟩ := (second zs).2 hk
        rw [q1]
        have hk3 : ¬ 4093 + (n : Int) % 5 + 2 + 1 ≤ 4096 := by have := HSZ.out; have := HK.out; omega
        generalize setF fxy (updR fxy 48 (some (0, [zs]))) 65 (0, [zs]) = f5 at *
        have HSy := Lib.hid hSy
        have HQ := Lib.hid q2
        clear hSy HSp q1 q2 x0 x1
        go_wp2_with fail
        refine (get_st 65 _ HSy.out (by omega)).mono ?_
        rintro e wa ⟨A1, n1, c1, rfl, hSa⟩
        rw [HQ.out] at hSa ⊢
        simp only [regOr, Option.getD_some, Option.isSome_some] at hSa ⊢
        have HSa := Lib.hid (((hSa.alloc #[.int .i64 0, .slice A1 n1 c1] 24).alloc #[.string xy] 9).add (x := .lines (some ⟨wa.heap.size + 1, 0, none⟩) 1 1 [xy]) (lines_one (by simp)))
        clear hSa HSy
        go_wp2_with fail
        refine (strings_calls _ _ _ [xy] _ _ _ [xy] _ (HSa.out.fs (.lines A1 n1 c1 [xy]) (by simp)) HSa.out.i0).mono ?_
        rintro e wb ⟨rfl, hO⟩
        rw [decide_eq_true (rfl : [xy] = [xy])]
        have HS5 := Lib.hid (HSa.out.no hO)
        clear hO HSa
        go_wp2_with fail
        go_ret
        exact ⟨rfl, HS5.out.bel⟩
    · go_enter Try.func6, Try.ntmps6
      go_wp2_with (go_at_call 10; refine (known_calls _).mono ?_; rintro e w1 ⟨rfl, hb⟩)
      refine (new_st w w1 hb).mono ?_
      rintro e w2 ⟨B, M, rfl, hS⟩
      have hS : St w w2 B M nil [] := hS
      have HS := Lib.hid (((((((hS.alloc (madeCells #[.int .u8 0] kk) 5).alloc #[.string zs] 9).add (x := .lines (some ⟨w2.heap.size + 1, 0, none⟩) 1 1 [zs]) (lines_one (by simp))).alloc #[.int .i64 0, .slice (some ⟨w2.heap.size + 1, 0, none⟩) 1 1] 24).alloc #[.int .u8 0, .int .u8 97, .int .u8 34, .int .u8 66] 5).alloc #[.string xy] 9).add (x := .lines (some ⟨w2.heap.size + 1 + 1 + 1 + 1, 0, none⟩) 1 1 [xy]) (lines_one (by simp)))
      clear hS hb
      go_wp2_with fail
      refine (put_st 97 (0, [xy]) _ HS.out HS.out.i0 (by omega) (by rw [sizeL_cons, sizeL_nil, show xy.size = 2 from rfl]; omega)).mono ?_
      rintro e wp ⟨rfl, hSp⟩
      rw [show putE nil 97 (0, [xy]) = 0 from exy]
      have hSp : St w wp B M fxy _ := hSp
      obtain ⟨x0, x1, _, _⟩ := reg_cells (show wp.heap[w2.heap.size + 1 + 1]? = some (.cells #[.int .i64 0, .slice (some ⟨w2.heap.size + 1, 0, none⟩) 1 1] 24 (0, 0)) from by simpa [Fact.ok] using hSp.i3)
      have HSp := Lib.hid hSp
      clear HS hSp
      go_wp2_with fail
      refine (yank_st 65 (0, [zs]) _ HSp.out HSp.out.i4 (by omega) (by rw [sizeL_cons, sizeL_nil, HSZ.out]; omega)).mono ?_
      rintro e wy ⟨rfl, hSy⟩
      by_cases hk : zs.size + 3 ≤ 4096
      · obtain ⟨q1, q2⟩ := (second zs).1 hk
        rw [q1]
        have hk3 : 4093 + (n : Int) % 5 + 2 + 1 ≤ 4096 := by have := HSZ.out; have := HK.out; omega
        obtain ⟨ts, hts⟩ : ∃ ts, xy ++ zs = ts := ⟨_, rfl⟩
        have hk4 : ((ts.size : Int) == 4093 + (n : Int) % 5 + 2) = true := by rw [beq_iff_eq, HK.out, ← hts, ByteArray.size_append, HSZ.out, show xy.size = 2 from rfl]; omega
        rw [hts] at q2
        clear hts
        generalize setF fxy (updR fxy 48 (some (0, [zs]))) 65 (0, [zs]) = f5 at *
        have HSy := Lib.hid hSy
        have HQ := Lib.hid q2
        clear hSy HSp q1 q2 x0 x1
        go_wp2_with fail
        refine (get_st 65 _ HSy.out (by omega)).mono ?_
        rintro e wa ⟨A1, n1, c1, rfl, hSa⟩
        rw [HQ.out] at hSa ⊢
        simp only [regOr, Option.getD_some, Option.isSome_some] at hSa ⊢
        obtain rfl : n1 = 1 := Lines.len hSa.i0
        obtain ⟨b, off, rfl, hbb, hcell⟩ := Lines.at hSa.i0 (show 0 < 1 by omega)
        rw [show lat [ts] 0 = ts from rfl, Nat.add_zero] at hcell
        have HSa := Lib.hid (hSa.alloc #[.int .i64 0, .slice (some ⟨b, off, none⟩) 1 c1] 24)
        clear hSa HSy
        go_wp2_with fail
        go_ret
        exact ⟨rfl, HSa.out.bel⟩
      · obtain ⟨q1, q2⟩ := (second zs).2 hk
        rw [q1]
        have hk3 : ¬ 4093 + (n : Int) % 5 + 2 + 1 ≤ 4096 := by have := HSZ.out; have := HK.out; omega
        generalize setF fxy (updR fxy 48 (some (0, [zs]))) 65 (0, [zs]) = f5 at *
        have HSy := Lib.hid hSy
        have HQ := Lib.hid q2
        clear hSy HSp q1 q2 x0 x1
        go_wp2_with fail
        refine (get_st 65 _ HSy.out (by omega)).mono ?_
        rintro e wa ⟨A1, n1, c1, rfl, hSa⟩
        rw [HQ.out] at hSa ⊢
        simp only [regOr, Option.getD_some, Option.isSome_some] at hSa ⊢
        have HSa := Lib.hid (((hSa.alloc #[.int .i64 0, .slice A1 n1 c1] 24).alloc #[.string xy] 9).add (x := .lines (some ⟨wa.heap.size + 1, 0, none⟩) 1 1 [xy]) (lines_one (by simp)))
        clear hSa HSy
        go_wp2_with fail
        refine (strings_calls _ _ _ [xy] _ _ _ [xy] _ (HSa.out.fs (.lines A1 n1 c1 [xy]) (by simp)) HSa.out.i0).mono ?_
        rintro e wb ⟨rfl, hO⟩
        rw [decide_eq_true (rfl : [xy] = [xy])]
        have HS5 := Lib.hid (HSa.out.no hO)
        clear hO HSa
        go_wp2_with fail
        go_ret
        exact ⟨rfl, HS5.out.bel⟩

theorem walk_any (w : World) (n nm : Int) (li : Bool) (h1 : (Lit.int .u8 n).wf = true) (h2 : (Lit.int .u8 nm).wf = true) :
    Calls Try.prog 6 #[.int .u8 n, .int .u8 nm, .bool li] w fun e w' => e = .returned (.bool true) ∧ Below w.heap.size w w' := by
  obtain ⟨h3, h4⟩ := bounds_u8 h1
  obtain ⟨h5, h6⟩ := bounds_u8 h2
  obtain ⟨x, rfl⟩ := Int.eq_ofNat_of_zero_le h3
  obtain ⟨y, rfl⟩ := Int.eq_ofNat_of_zero_le h5
  exact law_any x y li w (by omega) (by omega)

open Go.ChangeShapes Go.WideShapes Go.ChangeAt
open Go.ChangeMaps (open_string shut_string)
theorem own : ownKnob Try.prog.godebug = none := by kernel_rfl
set_option maxRecDepth 100000 in
theorem lifted (os : Os) (started : os.Started) (H : Type) (enc : TypeId × Value → H) :
    ReturnsInHanded {} Try.checked os 6 .any (Rows.regsLimitSpec.pre6 enc Try.prog Try.f6 Rows.regsLimitRow.domain false) (Rows.regsLimitSpec.post enc Try.prog Try.f6 false true false false) := by
  refine returnsInHanded_of_change_sized (C := Try.checked) own started (by kernel_rfl) Try.func6
    (ChangeSpec.witness6 (enc := enc) (C := Try.checked) false ⟨#[], #[.int .u8 0, .int .u8 0, .bool false], []⟩ 8 (by kernel_rfl) (by kernel_rfl) (by kernel_rfl) (by kernel_rfl)) ?_
  intro W base args ds gs before hval0 hW hcnd hsz0 _
  have hsz : (DataW.weightsEach Try.prog (Try.f6.params.toList ++ Rows.regsLimitSpec.plain.varTypes Try.prog) (ds ++ gs)).all (· ≤ reachBytes) = true := hsz0
  have hval : ∀ (j : Nat) t v, Try.f6.params[j]? = some t → args[j]? = some v → Value.okWide Try.prog W .any base t v := hval0
  have hW' := hW
  obtain ⟨p, q, hA0, hV, rfl, hfz, hnd⟩ := hW
  have hA : DataW.TrodAll enc Try.prog W 0 (fun _ => true) true Try.f6.params.toList args.toList ds p := hA0
  rw [Try.params6] at hA hval hsz
  obtain ⟨v0, vs0, d0, ds0, p0, q0, hargs, rfl, rfl, h0, r0⟩ := trodAll_cons hA
  obtain ⟨v1, vs1, d1, ds1, p1, q1, rfl, rfl, rfl, h1, r1⟩ := trodAll_cons r0
  obtain ⟨v2, vs2, d2, ds2, p2, q2, rfl, rfl, rfl, h2, r2⟩ := trodAll_cons r1
  obtain ⟨rfl, rfl, rfl⟩ := trodAll_nil r2
  obtain rfl : args = #[v0, v1, v2] := by cases args; simp_all
  obtain ⟨rfl, rfl⟩ := trodVars_none hV
  obtain ⟨a0, rfl, rfl, rfl, w0⟩ := open_int Try.underlying5 (hval 0 5 v0 rfl rfl) h0
  obtain ⟨a1, rfl, rfl, rfl, w1⟩ := open_int Try.underlying5 (hval 1 5 v1 rfl rfl) h1
  obtain ⟨a2, rfl, rfl, rfl⟩ := open_bool Try.underlying4 (hval 2 4 v2 rfl rfl) h2
  clear hA0 hval0 hsz0
  refine (walk_any W _ _ _ w0 w1).mono fun e W' ⟨he, bel⟩ => ?_
  subst he
  exact ⟨_, rfl, _, _, _, [], _, [], hW', trodAll_mk1 (shut_bool Try.underlying4 _), (trodAll_cons_mk (shut_int Try.underlying5 w0) (trodAll_cons_mk (shut_int Try.underlying5 w1) (trodAll_cons_mk (shut_bool Try.underlying4 _) trodAll_mk0))), rfl, bel.frame _, fun h => by cases h⟩
theorem over : Rows.regsLimitRow.holds Try.pinned (OpenSpec.ofChange Rows.regsLimitSpec) :=
  OpenClaim.holds_of_wide 6 Try.f6 rfl rfl rfl rfl rfl rfl rfl ⟨rfl, rfl, rfl, rfl, rfl⟩ rfl rfl rfl rfl rfl (by kernel_rfl) Try.func6 (by kernel_rfl)
    (of_decide_eq_true (by kernel_rfl)) (by unfold Func.isWrapper; first | (rw [if_pos (by decide +kernel)]; kernel_rfl) | (rw [if_neg (by decide +kernel)]; exact ⟨rfl, rfl⟩))
    (fun os started H enc _ => lifted os started H enc)
end Go.Proofs.Ytgdlplkeafeblaa.regsLimit
namespace Go.Proofs.Ytgdlplkeafeblaa
theorem regsLimit_holds : Rows.RegsLimitSaid := regsLimit.over
#print axioms regsLimit_holds
end Go.Proofs.Ytgdlplkeafeblaa
