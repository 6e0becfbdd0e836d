/- The contract of subframe.begin where a subframe of numbers as they are begins. -/
import Derived.Test.YtdpgojcljlfnbaaNumbers
import Derived.Test.YtdpgojcljlfnbaaPut
import Derived.StillTailTactics
--DEV
set_option linter.unusedVariables false
set_option linter.unusedSimpArgs false
set_option maxRecDepth 100000
namespace Go.Proofs.Ytdpgojcljlfnbaa
open Go.RowKit
open Go.Proofs.YtdpgojcljlfnbaaW.PrintWords

theorem kind1_any (w : World) : Calls Try.prog 116 #[.int .i64 1] w fun e w' => e = .returned (.tuple #[.int .i64 1, .int .i64 0, .int .i64 0]) ∧ w' = w := by
  go_enter Try.func116, Try.ntmps116
  go_wp2
  go_ret3
  exact ⟨rfl, rfl⟩

/-- One bit at a place. -/
theorem take1 (bs : List Bool) (k : Nat) (h : k < bs.length) : numB ((bs.drop k).take 1) = if bs.getD k false then 1 else 0 := by
  have e : (bs.drop k).take 1 = [bs[k]] := by rw [List.drop_eq_getElem_cons h]; rfl
  rw [e]
  simp [numB, List.getD_eq_getElem?_getD, List.getElem?_eq_getElem h]

theorem Take1_any (base g : Nat) (v : Value) (ys : List Int) (k : Nat) (w : World) (hR : IsR w base g v ys k 0) (b : Bool) (hl : k < 8 * ys.length) (hb : (bitsOf ys).getD k false = b) :
    Calls Try.prog 115 #[.pointer (some ⟨g, 0, none⟩), .int .i64 1] w fun e w' => e = .returned (.int .u64 (if b then 1 else 0)) ∧ IsR w' base g v ys (k + 1) 0 ∧ RStep w w' g := by
  have hfl : takeFl ys k 0 1 = 0 := by unfold takeFl; rw [show wid 1 = 1 from rfl, if_neg (by omega)]
  have hv : takeV ys k 0 1 = if b then 1 else 0 := by unfold takeV; rw [hfl, if_pos rfl, show wid 1 = 1 from rfl, take1 _ _ (by rw [bitsOf_length]; exact hl), hb]
  have hk : takeK ys k 0 1 = k + 1 := by unfold takeK; rw [hfl, if_pos rfl]; rfl
  refine (Take_any base g v ys k 0 1 w hR).mono ?_
  rintro e w1 ⟨rfl, h1, h2⟩
  rw [hfl, hk] at h1
  refine ⟨?_, h1, h2⟩
  rw [hv]
  cases b <;> rfl

theorem RStep.set_new {w w1 : World} {g b : Nat} (h : RStep w w1 g) (hb : w.heap.size ≤ b) (j : Nat) (u : Value) : RStep w (w1.setCell ⟨b, j, none⟩ u) g := by
  refine ⟨h.os, h.tape, h.output, ?_⟩
  refine ⟨by simpa using h.keep.1, fun i hi hne hn => ?_⟩
  have h1 : i ≠ b := by omega
  rw [← h.keep.2 i hi hne hn]
  exact Below.heap_setCell w1 ⟨b, j, none⟩ u i h1
theorem IsR.set_ {w1 : World} {base g b k : Nat} {v : Value} {ys : List Int} {fl : Int} {cs : Array Value} {t : TypeId} (h : IsR w1 base g v ys k fl) (hb : w1.heap[b]? = some (.cells cs t (0, 0))) (h1 : t ≠ 141) (h2 : t ≠ 5) (j : Nat) (u : Value) : IsR (w1.setCell ⟨b, j, none⟩ u) base g v ys k fl :=
  ⟨blk_far h.blk (p := ⟨b, j, none⟩) (blk_ne h.blk hb (fun e => h1 e.symm)) u, own_setCell (p := ⟨b, j, none⟩) h.own (own_ne h.own hb (fun e => h2 e.symm)) u, h.at_, h.by_, h.len⟩
theorem waste_getD (kw i : Nat) (h : i ≤ kw) : (wasteBits kw).getD i false = if i = 0 then decide (kw ≠ 0) else decide (i = kw) := by
  unfold wasteBits
  by_cases h0 : kw = 0
  · subst h0
    obtain rfl : i = 0 := by omega
    rfl
  · rw [if_neg h0]
    cases i with
    | zero => simp [h0]
    | succ i =>
      rw [if_neg (by omega)]
      show ((List.replicate (kw - 1) false ++ [true]).getD i false) = _
      rw [List.getD_eq_getElem?_getD]
      by_cases hk : i + 1 = kw
      · rw [List.getElem?_append_right (by simp; omega)]
        simp [show i - (kw - 1) = 0 from by omega, hk]
      · rw [List.getElem?_append_left (by simp; omega)]
        simp [List.getElem?_replicate, show i < kw - 1 from by omega, hk]

set_option maxHeartbeats 2000000 in
theorem begin1_any (base g : Nat) (v : Value) (ys : List Int) (kw : Nat) (block depth : Int) (rest : List Bool) (w : World) (hR : IsR w base g v ys 0 0) (hbits : bitsOf ys = digits 1 7 ++ wasteBits kw ++ rest) (hkw : (kw : Int) < depth) (hd : depth ≤ 33) (hb : 1 ≤ block) :
    Calls Try.prog 78 #[.pointer (some ⟨g, 0, none⟩), .int .i64 block, .int .i64 depth] w fun e w' => e = .returned (.tuple #[.agg #[.int .i64 1, .int .i64 kw, .int .i64 0, .int .i64 0, .int .i64 0, .slice none 0 0, .bool false, .int .i64 0, .slice none 0 0], .int .i64 0, .int .i64 0]) ∧ IsR w' base g v ys (8 + kw) 0 ∧ RStep w w' g := by
  have HR := Lib.hid hR
  have hw : ∀ i, i ≤ kw → (bitsOf ys).getD (7 + i) false = if i = 0 then decide (kw ≠ 0) else decide (i = kw) := by
    intro i hi
    rw [← waste_getD kw i hi, hbits, List.append_assoc, List.getD_eq_getElem?_getD, List.getElem?_append_right (by rw [digits_length]; omega), digits_length, List.getElem?_append_left (by rw [wasteBits_length]; omega), ← List.getD_eq_getElem?_getD, show 7 + i - 7 = i from by omega]
  have HWB := Lib.hid hw
  clear hw
  have hlen : 8 * ys.length = 8 + kw + rest.length := by rw [← bitsOf_length, hbits, List.length_append, List.length_append, digits_length, wasteBits_length]; omega
  have hb0 : (bitsOf ys).getD 0 false = false := by rw [hbits]; rfl
  have h6 : numB (((bitsOf ys).drop 1).take 6) = 1 := by rw [hbits]; rfl
  have HBITS := Lib.hid hbits
  have HB0 := Lib.hid hb0
  have ht6 : takeFl ys 1 0 6 = 0 ∧ takeV ys 1 0 6 = 1 ∧ takeK ys 1 0 6 = 7 := by
    have a : takeFl ys 1 0 6 = 0 := by unfold takeFl; rw [show wid 6 = 6 from rfl, if_neg (by omega)]
    refine ⟨a, ?_, ?_⟩
    · unfold takeV; rw [a, if_pos rfl]; exact h6
    · unfold takeK; rw [a, if_pos rfl]; rfl
  have HT6 := Lib.hid ht6
  clear hR hbits hb0 h6 ht6
  obtain ⟨W0, hW0⟩ : ∃ W0, w.alloc (Obj.cells #[.int .i64 0, .int .i64 0, .int .i64 0, .int .i64 0, .int .i64 0, .slice none 0 0, .bool false, .int .i64 0, .slice none 0 0] 32) = W0 := ⟨_, rfl⟩
  have hblk0 : W0.heap[w.heap.size]? = some (.cells #[.int .i64 0, .int .i64 0, .int .i64 0, .int .i64 0, .int .i64 0, .slice none 0 0, .bool false, .int .i64 0, .slice none 0 0] 32 (0, 0)) := by rw [← hW0]; exact heap_alloc_new w _
  have hb0 : Below w.heap.size w W0 := by rw [← hW0]; exact ba _ _
  have HR0 := Lib.hid (HR.out.below hb0)
  have HBL0 := Lib.hid hblk0
  have HS0 := Lib.hid (RStep.of_below hb0 g)
  have hne : w.heap.size ≠ g := by have := blk_lt HR.out.blk; omega
  clear hb0 hblk0
  go_enter Try.func78, Try.ntmps78
  go_wp2_with fail
  clear hW0
  refine (Take1_any base g v ys 0 W0 HR0.out false (by omega) HB0.out).mono ?_
  rintro e w1 ⟨rfl, hr1, hs1⟩
  have HR1 := Lib.hid hr1
  have HBL1 := Lib.hid (hs1.blk HR0.out.blk HBL0.out hne)
  have HS1 := Lib.hid (HS0.out.trans hs1)
  clear hr1 hs1
  go_wp2_with fail
  refine (Fail_same base g v ys _ 0 w1 HR1.out).mono ?_
  rintro e w1' ⟨rfl, rfl⟩
  go_wp2_with fail
  refine (Take_any base g v ys 1 0 6 w1' HR1.out).mono ?_
  rintro e w2 ⟨rfl, hr2, hs2⟩
  rw [HT6.out.1, HT6.out.2.2] at hr2
  rw [HT6.out.2.1]
  have HR2 := Lib.hid hr2
  have HBL2 := Lib.hid (hs2.blk HR1.out.blk HBL1.out hne)
  have HS2 := Lib.hid (HS1.out.trans hs2)
  clear hr2 hs2
  go_wp2_with fail
  refine (Fail_same base g v ys _ 0 w2 HR2.out).mono ?_
  rintro e w2' ⟨rfl, rfl⟩
  go_wp2_with fail
  refine (kind1_any w2').mono ?_
  rintro e w2'' ⟨rfl, rfl⟩
  have c0 := blk_cell HBL2.out 0
  have f0 := blk_frozen HBL2.out 0
  dsimp at c0
  go_wp2_with fail
  have HR3 := Lib.hid (HR2.out.set_ HBL2.out (by decide) (by decide) 0 (.int .i64 1))
  have HBL3 := Lib.hid (blk_set HBL2.out 0 (.int .i64 1))
  have HS3 := Lib.hid (HS2.out.set_new (Nat.le_refl _) 0 (.int .i64 1))
  obtain ⟨w3, hw3⟩ : ∃ w3, w2''.setCell ⟨w.heap.size, 0, none⟩ (.int .i64 1) = w3 := ⟨_, rfl⟩
  rw [hw3] at HR3 HBL3 HS3 ⊢
  clear hw3 c0 f0
  have hb7 := HWB.out 0 (Nat.zero_le _)
  rw [if_pos rfl] at hb7
  refine (Take1_any base g v ys 7 w3 HR3.out (decide (kw ≠ 0)) (by omega) hb7).mono ?_
  rintro e w4 ⟨rfl, hr4, hs4⟩
  obtain ⟨x, hx⟩ : ∃ x : Int, (if decide (kw ≠ 0) = true then (1 : Int) else 0) = x := ⟨_, rfl⟩
  have hx1 : (x == 1) = decide (0 < kw) := by
    rw [← hx]
    by_cases h0 : kw = 0
    · subst h0; rfl
    · rw [decide_eq_true h0, if_pos rfl, decide_eq_true (show 0 < kw by omega)]; rfl
  have HR4 := Lib.hid hr4
  have HBL4 := Lib.hid (hs4.blk HR3.out.blk HBL3.out hne)
  have HS4 := Lib.hid (HS3.out.trans hs4)
  rw [show (if decide (kw ≠ 0) = true then (1 : Int) else 0) = x from hx]
  clear hr4 hs4 hb7 hx
  go_wp2_with fail
  have hgb : w.heap.size ≤ w.heap.size := Nat.le_refl _
  go_loopw [7, 8, 11] (fun o7 o8 m wr => Hid (∃ i : Nat, i ≤ kw ∧ (o7 = .int .i64 0 ∧ o8 = .int .i64 0 ∧ m = .bool (decide (i < kw))) ∧ IsR wr base g v ys (8 + i) 0 ∧ wr.heap[w.heap.size]? = some (.cells #[.int .i64 1, .int .i64 i, .int .i64 0, .int .i64 0, .int .i64 0, .slice none 0 0, .bool false, .int .i64 0, .slice none 0 0] 32 (0, 0)) ∧ RStep w wr g)) (fun _ _ m wr => kw - (match wr.cell? ⟨w.heap.size, 1, none⟩ with | some (.int _ n) => n.toNat | _ => 0))
  case atStart => exact Lib.hid ⟨0, Nat.zero_le _, ⟨rfl, rfl, rfl⟩, HR4.out, HBL4.out, HS4.out⟩
  case round =>
    obtain ⟨i, hi, ⟨h7, h8, hm⟩, hri, hbi, hsi⟩ := hrel.out
    clear hrel hx1
    subst hm; subst h7; subst h8
    have HRI := Lib.hid hri; have HBI := Lib.hid hbi; have HSI := Lib.hid hsi
    have c0 : wr.cell? ⟨w.heap.size, 0, none⟩ = some (.int .i64 1) := blk_cell hbi 0
    have c1 : wr.cell? ⟨w.heap.size, 1, none⟩ = some (.int .i64 i) := blk_cell hbi 1
    have f1 := blk_frozen hbi 1
    clear hri hbi hsi
    by_cases hlt : i < kw
    · have hd1 : decide (i < kw) = true := decide_eq_true hlt
      go_wp2_with fail
      refine (Fail_same base g v ys _ 0 wr HRI.out).mono ?_
      rintro e wr' ⟨rfl, rfl⟩
      have hwi : IntKind.i64.wrap ((i : Int) + 1) = (i : Int) + 1 := IntWalk.i64_in _ (by omega)
      have hgd : decide (depth ≤ (i : Int) + 1) = false := decide_eq_false (by omega)
      go_wp2_with fail
      have HR5 := Lib.hid (HRI.out.set_ HBI.out (by decide) (by decide) 1 (.int .i64 ((i : Int) + 1)))
      have HBL5 := Lib.hid (blk_set HBI.out 1 (.int .i64 ((i : Int) + 1)))
      have HS5 := Lib.hid (HSI.out.set_new (Nat.le_refl _) 1 (.int .i64 ((i : Int) + 1)))
      obtain ⟨w5, hw5⟩ : ∃ w5, wr'.setCell ⟨w.heap.size, 1, none⟩ (.int .i64 ((i : Int) + 1)) = w5 := ⟨_, rfl⟩
      rw [hw5] at HR5 HBL5 HS5 ⊢
      clear hw5 c0 c1 f1
      have hb7 := HWB.out (i + 1) (by omega)
      rw [if_neg (by omega), show 7 + (i + 1) = 8 + i from by omega] at hb7
      refine (Take1_any base g v ys (8 + i) w5 HR5.out (decide (i + 1 = kw)) (by omega) hb7).mono ?_
      rintro e w6 ⟨rfl, hr6, hs6⟩
      obtain ⟨y, hy⟩ : ∃ y : Int, (if decide (i + 1 = kw) = true then (1 : Int) else 0) = y := ⟨_, rfl⟩
      have hy1 : (y == 0) = decide (i + 1 < kw) := by
        rw [← hy]
        by_cases h0 : i + 1 = kw
        · rw [decide_eq_true h0, if_pos rfl, decide_eq_false (show ¬(i + 1 < kw) by omega)]; rfl
        · rw [decide_eq_false h0, decide_eq_true (show i + 1 < kw by omega)]; rfl
      have HR6 := Lib.hid hr6
      have HBL6 := Lib.hid (hs6.blk HR5.out.blk HBL5.out hne)
      have HS6 := Lib.hid (HS5.out.trans hs6)
      rw [show (if decide (i + 1 = kw) = true then (1 : Int) else 0) = y from hy]
      clear hr6 hs6 hb7 hy
      go_wp2_with fail
      go_roundw
      case rel => exact Lib.hid ⟨i + 1, by omega, ⟨rfl, rfl, rfl⟩, HR6.out, by have h := HBL6.out; simpa using h, HS6.out⟩
      case measure =>
        have h6 : w6.cell? ⟨w.heap.size, 1, none⟩ = some (.int .i64 ((i : Int) + 1)) := blk_cell HBL6.out 1
        have h0 : wr'.cell? ⟨w.heap.size, 1, none⟩ = some (.int .i64 (i : Int)) := blk_cell HBI.out 1
        have t1 : ((i : Int) + 1).toNat = i + 1 := by clear hwi; omega
        have t2 : ((i : Int)).toNat = i := Int.toNat_natCast i
        rw [h6, h0]
        dsimp only
        rw [t1, t2]
        omega
    · have hd0 : decide (i < kw) = false := decide_eq_false hlt
      obtain rfl : i = kw := by omega
      have hbk : decide (block ≤ 0) = false := decide_eq_false (by omega)
      have c2 : wr.cell? ⟨w.heap.size, 2, none⟩ = some (.int .i64 0) := blk_cell HBI.out 2
      have c3 : wr.cell? ⟨w.heap.size, 3, none⟩ = some (.int .i64 0) := blk_cell HBI.out 3
      have c4 : wr.cell? ⟨w.heap.size, 4, none⟩ = some (.int .i64 0) := blk_cell HBI.out 4
      have c5 : wr.cell? ⟨w.heap.size, 5, none⟩ = some (.slice none 0 0) := blk_cell HBI.out 5
      have c6 : wr.cell? ⟨w.heap.size, 6, none⟩ = some (.bool false) := blk_cell HBI.out 6
      have c7 : wr.cell? ⟨w.heap.size, 7, none⟩ = some (.int .i64 0) := blk_cell HBI.out 7
      have c8 : wr.cell? ⟨w.heap.size, 8, none⟩ = some (.slice none 0 0) := blk_cell HBI.out 8
      go_wp2_with fail
      refine (Fail_same base g v ys _ 0 wr HRI.out).mono ?_
      rintro e wr' ⟨rfl, rfl⟩
      go_wp2_with fail
      have HRD := Lib.hid (HRI.out.below (bd1 wr'))
      have hBD : wr'.drew.heap[w.heap.size]? = some (.cells #[.int .i64 1, .int .i64 i, .int .i64 0, .int .i64 0, .int .i64 0, .slice none 0 0, .bool false, .int .i64 0, .slice none 0 0] 32 (0, 0)) := blk_below HBI.out (bd1 wr')
      have f0 := blk_frozen HBI.out 0
      have f2 := blk_frozen HBI.out 2
      have f3 := blk_frozen HBI.out 3
      have f4 := blk_frozen HBI.out 4
      have f5 := blk_frozen HBI.out 5
      have f6 := blk_frozen HBI.out 6
      have f7 := blk_frozen HBI.out 7
      have f8 := blk_frozen HBI.out 8
      have d0 := blk_cell hBD 0
      have d1 := blk_cell hBD 1
      have d2 := blk_cell hBD 2
      have d3 := blk_cell hBD 3
      have d4 := blk_cell hBD 4
      have d5 := blk_cell hBD 5
      have d6 := blk_cell hBD 6
      have d7 := blk_cell hBD 7
      have d8 := blk_cell hBD 8
      have g0 := blk_frozen hBD 0
      have g1 := blk_frozen hBD 1
      have g2 := blk_frozen hBD 2
      have g3 := blk_frozen hBD 3
      have g4 := blk_frozen hBD 4
      have g5 := blk_frozen hBD 5
      have g6 := blk_frozen hBD 6
      have g7 := blk_frozen hBD 7
      have g8 := blk_frozen hBD 8
      simp only [List.getElem?_toArray, List.getElem?_cons_zero, List.getElem?_cons_succ] at d0 d1 d2 d3 d4 d5 d6 d7 d8
      go_region_with (go_at_call 80; refine (Fail_same base g v ys _ 0 _ HRD.out).mono ?_; rintro e w7 ⟨rfl, rfl⟩)
      all_goals
        go_wp2
        have e0 := HRI.out
        have b0 := HBI.out
        have s0 := HSI.out
        have e1 := e0.set_ b0 (by decide) (by decide) 0 (.int .i64 1)
        have b1 := blk_set b0 0 (.int .i64 1)
        have s1 := s0.set_new (Nat.le_refl _) 0 (.int .i64 1)
        have e2 := e1.set_ b1 (by decide) (by decide) 1 (.int .i64 i)
        have b2 := blk_set b1 1 (.int .i64 i)
        have s2 := s1.set_new (Nat.le_refl _) 1 (.int .i64 i)
        have e3 := e2.set_ b2 (by decide) (by decide) 2 (.int .i64 0)
        have b3 := blk_set b2 2 (.int .i64 0)
        have s3 := s2.set_new (Nat.le_refl _) 2 (.int .i64 0)
        have e4 := e3.set_ b3 (by decide) (by decide) 3 (.int .i64 0)
        have b4 := blk_set b3 3 (.int .i64 0)
        have s4 := s3.set_new (Nat.le_refl _) 3 (.int .i64 0)
        have e5 := e4.set_ b4 (by decide) (by decide) 4 (.int .i64 0)
        have b5 := blk_set b4 4 (.int .i64 0)
        have s5 := s4.set_new (Nat.le_refl _) 4 (.int .i64 0)
        have e6 := e5.set_ b5 (by decide) (by decide) 5 (.slice none 0 0)
        have b6 := blk_set b5 5 (.slice none 0 0)
        have s6 := s5.set_new (Nat.le_refl _) 5 (.slice none 0 0)
        have e7 := e6.set_ b6 (by decide) (by decide) 6 (.bool false)
        have b7 := blk_set b6 6 (.bool false)
        have s7 := s6.set_new (Nat.le_refl _) 6 (.bool false)
        have e8 := e7.set_ b7 (by decide) (by decide) 7 (.int .i64 0)
        have b8 := blk_set b7 7 (.int .i64 0)
        have s8 := s7.set_new (Nat.le_refl _) 7 (.int .i64 0)
        have e9 := e8.set_ b8 (by decide) (by decide) 8 (.slice none 0 0)
        have b9 := blk_set b8 8 (.slice none 0 0)
        have s9 := s8.set_new (Nat.le_refl _) 8 (.slice none 0 0)
        have bz := blk_below b9 (bd1 _)
        have z0 := blk_cell bz 0
        have z1 := blk_cell bz 1
        have z2 := blk_cell bz 2
        have z3 := blk_cell bz 3
        have z4 := blk_cell bz 4
        have z5 := blk_cell bz 5
        have z6 := blk_cell bz 6
        have z7 := blk_cell bz 7
        have z8 := blk_cell bz 8
        refine bodyPost_ret (v := .tuple #[.agg #[.int .i64 1, .int .i64 i, .int .i64 0, .int .i64 0, .int .i64 0, .slice none 0 0, .bool false, .int .i64 0, .slice none 0 0], .int .i64 0, .int .i64 0]) (by simp [results, Try.results78, go_sem, c0, c1, c2, c3, c4, c5, c6, c7, c8]) rfl ?_
        exact ⟨rfl, e9.below (bd1 _), s9.trans (RStep.of_below (bd1 _) g)⟩
end Go.Proofs.Ytdpgojcljlfnbaa
