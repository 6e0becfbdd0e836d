/- Contracts of functions that the law reaches: Compact, Bits. -/
import Derived.Test.YtdpgojcljlfnbaaPkLpc
import Derived.Test.YtdpgojcljlfnbaaPkShelf
section
/- Whether all of some numbers are one, by slices.Compact. -/
set_option linter.unusedVariables false
set_option linter.unusedSimpArgs false
set_option maxRecDepth 100000
namespace Go.Proofs.Ytdpgojcljlfnbaa
open Go.RowKit
open Go.Proofs.YtdpgojcljlfnbaaW.PrintWords

/-- Are all numbers one? -/
def oneI (xs : List Int) : Bool := xs.all fun x => x == xs.getD 0 0
theorem compact_one (xs : List Int) (h : xs ≠ []) : (1 < (Lib.compact xs).length) ↔ oneI xs = false := by
  obtain ⟨a, l, rfl⟩ := List.exists_cons_of_ne_nil h
  have hget : ∀ j, (h : j < (a :: l).length) → (a :: l).toArray[j]! = (a :: l).getD j 0 := by
    intro j hj
    simp [List.getD_eq_getElem?_getD, List.getElem?_eq_getElem hj, getElem!_pos, hj]
  have hk0 : Lib.keeps (a :: l).toArray 0 = true := by simp [Lib.keeps]
  have hlen : (Lib.compact (a :: l)).length = ((List.range (a :: l).length).filter (Lib.keeps (a :: l).toArray)).length := by
    unfold Lib.compact Lib.compactUpTo; rw [List.length_map]
  rw [hlen]
  have hr : List.range (a :: l).length = 0 :: (List.range l.length).map (· + 1) := by
    rw [List.length_cons, List.range_succ_eq_map]
  rw [hr, List.filter_cons, if_pos hk0, List.length_cons]
  have hpos : (1 < ((((List.range l.length).map (· + 1)).filter (Lib.keeps (a :: l).toArray)).length + 1)) ↔ ∃ j, j < l.length ∧ Lib.keeps (a :: l).toArray (j + 1) = true := by
    constructor
    · intro h1
      obtain ⟨q, hq⟩ := List.exists_mem_of_length_pos (l := (((List.range l.length).map (· + 1)).filter (Lib.keeps (a :: l).toArray))) (by omega)
      simp only [List.mem_filter, List.mem_map, List.mem_range] at hq
      obtain ⟨⟨j, hj, rfl⟩, hk⟩ := hq
      exact ⟨j, hj, hk⟩
    · rintro ⟨j, hj, hk⟩
      have : (j + 1) ∈ (((List.range l.length).map (· + 1)).filter (Lib.keeps (a :: l).toArray)) := by
        simp only [List.mem_filter, List.mem_map, List.mem_range]
        exact ⟨⟨j, hj, rfl⟩, hk⟩
      have := List.length_pos_of_mem this
      omega
  rw [hpos]
  have hkeep : ∀ j, j < l.length → (Lib.keeps (a :: l).toArray (j + 1) = true ↔ (a :: l).getD (j + 1) 0 ≠ (a :: l).getD j 0) := by
    intro j hj
    unfold Lib.keeps
    rw [hget (j + 1) (by simp; omega), show j + 1 - 1 = j from rfl, hget j (by simp; omega)]
    simp
  constructor
  · rintro ⟨j, hj, hk⟩
    rw [hkeep j hj] at hk
    unfold oneI
    rw [List.all_eq_false]
    rcases Classical.em ((a :: l).getD j 0 = a) with h1 | h1
    · refine ⟨(a :: l).getD (j + 1) 0, getD_mem _ _ (by simp; omega), ?_⟩
      simp only [beq_iff_eq]; intro h2; rw [h1] at hk; exact hk (by simpa using h2)
    · refine ⟨(a :: l).getD j 0, getD_mem _ _ (by simp; omega), ?_⟩
      simp only [beq_iff_eq]; intro h2; exact h1 (by simpa using h2)
  · intro h1
    apply Classical.byContradiction
    intro h2
    have hall : ∀ j, j < l.length + 1 → (a :: l).getD j 0 = a := by
      intro j
      induction j with
      | zero => intro _; rfl
      | succ j ih =>
        intro hj
        have h3 := ih (by omega)
        apply Classical.byContradiction
        intro h4
        exact h2 ⟨j, by omega, (hkeep j (by omega)).2 (by rw [h3]; exact h4)⟩
    unfold oneI at h1
    rw [List.all_eq_false] at h1
    obtain ⟨x, hx, hne⟩ := h1
    obtain ⟨j, hj, rfl⟩ := List.mem_iff_getElem.1 hx
    have := hall j (by simpa using hj)
    apply hne
    simp only [beq_iff_eq]
    rw [List.getD_eq_getElem?_getD, List.getElem?_eq_getElem hj, Option.getD_some] at this
    rw [this]; rfl

theorem Compact_any (v : Value) (xs : List Int) (base : Nat) (w w0 : World) (ho : w.ownsRow base 3 1 v xs.length (nums .i64 xs)) (hne : xs ≠ []) (hb : Below w0.heap.size w0 w) (hbase : w0.heap.size ≤ base) :
    Calls Try.prog 51 #[v] w fun e w' => ∃ A n c, e = .returned (.slice A n c) ∧ (1 < n ↔ oneI xs = false) ∧ n ≤ xs.length ∧ Below w0.heap.size w0 w' := by
  have hlp : 0 < xs.length := List.length_pos_iff.2 hne
  obtain ⟨g, cap, hv, hgb, hgl⟩ := ho.form hlp
  subst hv
  have hcap := own_cap ho
  have hmax : xs.length ≤ 9223372036854775807 := by
    rcases ho.2 with ⟨h, _⟩ | ⟨g', cap', cur, hv, _, hh, h3, h4, _⟩
    · cases h
    · simp only [maxLen] at h4; omega
  refine (Try.slices_Compact_int_cells g 0 xs.length cap xs w (Nat.le_refl _) hmax hcap ?_ ?_).mono ?_
  · intro j hj
    have h := (own_at ho (j : Int) (by omega) (by omega)).1
    rw [Int.toNat_natCast] at h
    rw [Nat.zero_add, h]; unfold rd; rw [Int.toNat_natCast]
  · intro j hj
    have h := (own_at ho (j : Int) (by omega) (by omega)).2
    rw [Int.toNat_natCast] at h
    rw [Nat.zero_add, h]
  · rintro e w' ⟨rfl, q, rfl⟩
    rw [List.take_length]
    refine ⟨_, _, _, rfl, compact_one xs hne, ?_, ?_⟩
    · unfold Lib.compact Lib.compactUpTo
      rw [List.length_map]
      exact Nat.le_trans (List.length_filter_le _ _) (by simp)
    · have h1 := setCells_same g ((Lib.compact xs ++ List.replicate (xs.length - (Lib.compact xs).length) 0).map (Value.int .i64)) 0 (w.drewN q)
      have h2 : Below w0.heap.size w0 (w.drewN q) := pw_below_drewN hb q
      exact ⟨h1.1.trans h2.os, h1.2.1.trans h2.tape, h1.2.2.1.trans h2.output, by rw [h1.2.2.2]; exact h2.size, fun k hk => (setCells_far _ _ k (by omega)).trans (h2.block k hk)⟩
end Go.Proofs.Ytdpgojcljlfnbaa
end
section
/- The contract of subframe.Bits; lists shorter than a million. -/
set_option linter.unusedVariables false
set_option linter.unusedSimpArgs false
set_option maxRecDepth 100000
namespace Go.Proofs.Ytdpgojcljlfnbaa
open Go.RowKit
open Go.Proofs.YtdpgojcljlfnbaaW.PrintWords

/-- What a subframe has ahead of what is left: eight bits, the wasted ones, a predictor, the numbers ahead. -/
def aheadI (s : SubV) (depth : Int) : Int := 8 + s.wasted + (if s.kind = 3 then 9 + s.prec * s.fs.length else 0) + (depth - s.wasted) * orderI s
def bitsTail (xs : List Int) (s : SubV) (depth : Int) : Int × Int :=
  if (restI xs s).2 ≠ 0 then (0, (restI xs s).2)
  else if partsI (restI xs s).1 (orderI s) s.wide s.po s.ps < 0 then (0, 1)
  else (aheadI s depth + partsI (restI xs s).1 (orderI s) s.wide s.po s.ps, 0)
/-- What subframe.Bits tells. -/
def bitsI (xs : List Int) (s : SubV) (depth : Int) : Int × Int :=
  if oddI xs s depth ≠ 0 then (0, oddI xs s depth)
  else if s.kind = 0 then (if oneI xs then (8 + depth, 0) else (0, 5))
  else if s.kind = 1 then (8 + s.wasted + (depth - s.wasted) * xs.length, 0)
  else bitsTail xs s depth

theorem odd_zero {xs : List Int} {s : SubV} {depth : Int} (h : oddI xs s depth = 0) : 1 ≤ xs.length ∧ xs.length ≤ 65535 ∧ 4 ≤ depth ∧ depth ≤ 33 ∧ 0 ≤ s.kind ∧ s.kind ≤ 3 ∧ 0 ≤ s.wasted ∧ s.wasted < depth ∧
    ∀ x ∈ xs, inDepth x depth = true ∧ x / p2 s.wasted.toNat * p2 s.wasted.toNat = x := by
  unfold oddI at h
  split at h
  · omega
  · rename_i hb
    split at h
    · omega
    · rename_i ha
      simp only [oddBad, Bool.or_eq_true, decide_eq_true_eq, not_or] at hb
      obtain ⟨⟨⟨⟨⟨⟨⟨b1, b2⟩, b3⟩, b4⟩, b5⟩, b6⟩, b7⟩, b8⟩ := hb
      refine ⟨by omega, by omega, by omega, by omega, by omega, by omega, by omega, by omega, fun x hx => ?_⟩
      simp only [List.any_eq_true, not_exists, not_and] at ha
      have h1 := ha x hx
      unfold numBad at h1
      simp only [Bool.or_eq_true, not_or, Bool.not_eq_true', decide_eq_true_eq, ne_eq, Classical.not_not, Bool.not_eq_false] at h1
      exact h1
theorem in_near {x depth : Int} (h : inDepth x depth = true) (hd : depth ≤ 33) : -1099511627776 ≤ x ∧ x ≤ 1099511627776 := by
  unfold inDepth at h
  simp only [Bool.and_eq_true, decide_eq_true_eq] at h
  have h2 : p2 (depth - 1).toNat ≤ 4294967296 := by
    have h3 : 2 ^ (depth - 1).toNat ≤ 2 ^ 32 := Nat.pow_le_pow_right (by decide) (by omega)
    unfold p2; omega
  omega

/-- A box that holds a subframe. -/
structure SubBox (w : World) (g : Nat) (s : SubV) : Prop where
  c0 : w.cell? ⟨g, 0, none⟩ = some (.int .i64 s.kind)
  c1 : w.cell? ⟨g, 1, none⟩ = some (.int .i64 s.wasted)
  c2 : w.cell? ⟨g, 2, none⟩ = some (.int .i64 s.order)
  c3 : w.cell? ⟨g, 3, none⟩ = some (.int .i64 s.shift)
  c4 : w.cell? ⟨g, 4, none⟩ = some (.int .i64 s.prec)
  c5 : w.cell? ⟨g, 5, none⟩ = some (.slice s.FA s.fs.length s.fc)
  c6 : w.cell? ⟨g, 6, none⟩ = some (.bool s.wide)
  c7 : w.cell? ⟨g, 7, none⟩ = some (.int .i64 s.po)
  c8 : w.cell? ⟨g, 8, none⟩ = some (.slice s.PA s.ps.length s.pc)
theorem SubBox.new (w : World) (s : SubV) (t : TypeId) : SubBox (w.alloc (Obj.cells (subCells s) t)) w.heap.size s := by
  constructor <;> simp [go_sem]
theorem SubBox.below {w w1 : World} {g : Nat} {s : SubV} (h : SubBox w g s) (hb : Below w.heap.size w w1) : SubBox w1 g s :=
  ⟨pw_cell_below hb h.c0, pw_cell_below hb h.c1, pw_cell_below hb h.c2, pw_cell_below hb h.c3, pw_cell_below hb h.c4, pw_cell_below hb h.c5, pw_cell_below hb h.c6, pw_cell_below hb h.c7, pw_cell_below hb h.c8⟩

theorem SubBox.conj {w : World} {g : Nat} {s : SubV} (h : SubBox w g s) : w.cell? ⟨g, 0, none⟩ = some (.int .i64 s.kind) ∧ w.cell? ⟨g, 1, none⟩ = some (.int .i64 s.wasted) ∧ w.cell? ⟨g, 2, none⟩ = some (.int .i64 s.order) ∧ w.cell? ⟨g, 3, none⟩ = some (.int .i64 s.shift) ∧ w.cell? ⟨g, 4, none⟩ = some (.int .i64 s.prec) ∧ w.cell? ⟨g, 5, none⟩ = some (.slice s.FA s.fs.length s.fc) ∧ w.cell? ⟨g, 6, none⟩ = some (.bool s.wide) ∧ w.cell? ⟨g, 7, none⟩ = some (.int .i64 s.po) ∧ w.cell? ⟨g, 8, none⟩ = some (.slice s.PA s.ps.length s.pc) := ⟨h.c0, h.c1, h.c2, h.c3, h.c4, h.c5, h.c6, h.c7, h.c8⟩
theorem rest_lpc (xs : List Int) (s : SubV) (h : (restI xs s).2 = 0) (hk : s.kind = 3) : lpcI s.shift s.prec s.fs = 0 := by
  unfold restI at h
  rw [if_neg (by omega), if_neg (by omega), if_pos hk] at h
  apply Classical.byContradiction
  intro hne
  unfold lresI at h
  rw [if_pos hne] at h
  split at h
  · cases h
  · exact hne h
theorem partsGo_bd (most size : Int) (hs : 0 ≤ size ∧ size ≤ 5) (cs : List Int) (ps : List PartV) (xs : List Int) (sum : Int) (h0 : 0 ≤ sum) (hx : xs.length ≤ 1000000) : -1 ≤ partsGo most size cs ps xs sum ∧ partsGo most size cs ps xs sum ≤ sum + 17179869300 * xs.length + 10 * cs.length := by
  induction cs generalizing ps xs sum with
  | nil => simp only [partsGo, List.length_nil]; omega
  | cons m ms ih =>
    cases ps with
    | nil => simp only [partsGo, List.length_cons]; omega
    | cons p ps =>
      simp only [partsGo]
      split
      · simp only [List.length_cons]; omega
      · rename_i hc
        have h1 := eachI_bd (xs.take m.toNat) p.1 p.2 (by rw [List.length_take]; omega)
        have h2 := ih ps (xs.drop m.toNat) (sum + (size + eachI (xs.take m.toNat) p.1 p.2)) (by omega) (by rw [List.length_drop]; omega)
        have h3 : ((xs.take m.toNat).length : Int) + (xs.drop m.toNat).length = xs.length := by rw [List.length_take, List.length_drop]; omega
        simp only [List.length_cons]
        omega
theorem partsI_bd (xs : List Int) (o : Int) (wide : Bool) (po : Int) (ps : List PartV) (hx : xs.length ≤ 1000000) : -1 ≤ partsI xs o wide po ps ∧ partsI xs o wide po ps ≤ 17179869300 * 1000000 + 1000000 := by
  unfold partsI
  split
  · omega
  · have h1 := partsGo_bd (mostI wide) (sizeK wide) (by unfold sizeK; split <;> omega) (cutsI xs.length o po) ps xs 6 (by omega) hx
    have h2 := (cuts_facts xs.length o po).2.2
    omega
theorem rest_order (xs : List Int) (s : SubV) (h : (restI xs s).2 = 0) (hk : s.kind = 2 ∨ s.kind = 3) : 0 ≤ orderI s ∧ orderI s ≤ 32 := by
  unfold restI at h
  rw [if_neg (by omega)] at h
  rcases hk with hk | hk
  · rw [if_pos hk] at h
    unfold orderI
    rw [if_pos hk]
    unfold residI at h
    split at h
    · cases h
    · split at h
      · simp at h
      · omega
  · rw [if_neg (by omega), if_pos hk] at h
    unfold orderI
    rw [if_neg (by omega), if_pos hk]
    have hz : lpcI s.shift s.prec s.fs = 0 := by
      apply Classical.byContradiction
      intro hne
      unfold lresI at h
      rw [if_pos hne] at h
      split at h
      · cases h
      · exact hne h
    have := lpcI_zero hz
    omega
theorem lres_length (fs : List Int) (shift : Int) (xs : List Int) : (lres fs shift xs).length = xs.length - fs.length := by unfold lres; rw [List.length_map, List.length_range]
theorem rest_len (xs : List Int) (s : SubV) : (restI xs s).1.length ≤ xs.length := by
  have hd : (downI xs s.wasted).length = xs.length := by simp [downI]
  have h1 : (residI (downI xs s.wasted) s.order).1.length ≤ xs.length := by
    unfold residI
    split
    · simp
    · split
      · simp
      · simp only [diffs_length]; omega
  have h2 : (lresI s.fs s.shift s.prec (downI xs s.wasted)).1.length ≤ xs.length := by
    unfold lresI
    split
    · simp
    · split
      · simp
      · split
        · simp
        · simp only [lres_length]; omega
  unfold restI
  split
  · simp
  · split
    · split
      · simp
      · exact h1
    · split
      · split
        · simp
        · exact h2
      · simp

set_option maxHeartbeats 2000000 in
theorem Bits_any (A : Option Addr) (n c : Nat) (xs : List Int) (s : SubV) (depth : Int) (w : World) (hr : ReadsInt w .i64 A n xs) (hs : SubR w s) (hnc : n ≤ c) :
    Calls Try.prog 13 #[.slice A n c, subVal s, .int .i64 depth] w fun e w' => e = .returned (.tuple #[.int .i64 (bitsI xs s depth).1, .int .i64 (bitsI xs s depth).2]) ∧ Below w.heap.size w w' := by
  have HR := Lib.hid hr
  have HS := Lib.hid hs
  have HL := Lib.hid hr.1
  clear hr hs
  obtain ⟨od, hod⟩ : ∃ od, oddI xs s depth = od := ⟨_, rfl⟩
  have HOD := Lib.hid hod
  clear hod
  obtain ⟨W0, hW0⟩ : ∃ W0, w.alloc (Obj.cells (subCells s) 32) = W0 := ⟨_, rfl⟩
  have HBX := Lib.hid (SubBox.new w s 32)
  rw [hW0] at HBX
  have hb0 : Below w.heap.size w W0 := by rw [← hW0]; exact ba _ _
  obtain ⟨h00, h01, h02, h03, h04, h05, h06, h07, h08⟩ := HBX.out
  by_cases c0 : od = 0
  · subst c0
    obtain ⟨z1, z2, z3, z4, z5, z6, z7, z8, z9⟩ := odd_zero HOD.out
    rw [HL.out] at z1 z2
    have HX : Hid (∀ x ∈ xs, -1099511627776 ≤ x ∧ x ≤ 1099511627776) := Lib.hid fun x hx => in_near (z9 x hx).1 z4
    clear z9
    go_enter Try.func13, Try.ntmps13
    go_wp2_with fail
    refine (odd_any A n c xs s depth W0 (HR.out.below hb0)).mono ?_
    rintro e w1 ⟨rfl, hb⟩
    rw [HOD.out]
    have HBX1 := Lib.hid (HBX.out.below hb)
    have hb1 := bt hb0 hb
    clear h00 h01 h02 h03 h04 h05 h06 h07 h08 hb0 hb hW0 HBX
    obtain ⟨h00, h01, h02, h03, h04, h05, h06, h07, h08⟩ := HBX1.out
    go_wp2_with fail
    obtain ⟨R, hR⟩ : ∃ R, restI xs s = R := ⟨_, rfl⟩
    have HRR := Lib.hid hR
    clear hR
    refine (Rest_any A n c xs s w1 (HR.out.below hb1) (HS.out.below hb1) (by omega) HX.out).mono ?_
    rintro e w2 ⟨v2, rfl, hown2, hb⟩
    rw [HRR.out] at hown2 ⊢
    obtain ⟨lst, er⟩ := R
    dsimp only at hown2 ⊢
    have HBX2 := Lib.hid (HBX1.out.below hb)
    have hb2 := bt hb1 hb
    clear h00 h01 h02 h03 h04 h05 h06 h07 h08 hb HBX1
    obtain ⟨h00, h01, h02, h03, h04, h05, h06, h07, h08⟩ := HBX2.out
    obtain ⟨A2, c2, rfl, hrc2⟩ := own_reads hown2
    have hcap2 := own_cap hown2
    have HRC2 := Lib.hid hrc2
    clear hown2 hrc2
    have e1 : IntKind.i64.wrap (8 + s.wasted) = 8 + s.wasted := IntWalk.i64_in _ (by omega)
    have e2 : IntKind.i64.wrap (depth - s.wasted) = depth - s.wasted := IntWalk.i64_in _ (by omega)
    go_wp2
    go_quiet (fail)
    clear e1 e2
    obtain ⟨wq, hwq⟩ : ∃ wq, w2.drewN nq = wq := ⟨_, rfl⟩
    have hbq : Below w2.heap.size w2 wq := by rw [← hwq]; exact bd _ _
    rw [hwq]
    have HBX3 := Lib.hid (HBX2.out.below hbq)
    have hb3 := bt hb2 hbq
    have HRC3 := Lib.hid (HRC2.out.below hbq)
    clear h00 h01 h02 h03 h04 h05 h06 h07 h08 hwq HRC2 HBX2 hbq hb2 hb1
    obtain ⟨h00, h01, h02, h03, h04, h05, h06, h07, h08⟩ := HBX3.out
    have hn1 : n ≤ 17592186044416 := by omega
    by_cases k0 : s.kind = 0
    · have HNE : Hid (xs ≠ []) := Lib.hid (by intro h; have := HL.out; rw [h] at this; simp at this; omega)
      go_wp2_with fail
      refine (Clone_any A n c xs wq (HR.out.below hb3) hn1).mono ?_
      rintro e w4 ⟨v4, rfl, hown4, hb4⟩
      have HB4 := Lib.hid (bt hb3 hb4)
      go_wp2_with fail
      refine (Compact_any v4 xs wq.heap.size w4 w hown4 HNE.out HB4.out hb3.size).mono ?_
      rintro e w5 ⟨A5, n5, c5, rfl, hone, hn5, hb5⟩
      have HONE := Lib.hid hone
      have hn5' : n5 ≤ 65535 := Nat.le_trans hn5 (by rw [HL.out]; exact z2)
      clear hone hn5 hown4
      by_cases hq : 1 < n5
      · have HV : Hid (bitsI xs s depth = (0, 5)) := Lib.hid (by unfold bitsI; rw [HOD.out, if_neg (by omega), if_pos k0, HONE.out.1 hq]; rfl)
        go_wp2
        go_ret2
        exact ⟨by rw [HV.out]; rfl, hb5⟩
      · have HV : Hid (bitsI xs s depth = (8 + depth, 0)) := Lib.hid (by
          have h1 : oneI xs = true := by
            cases h : oneI xs
            · exact absurd (HONE.out.2 h) hq
            · rfl
          unfold bitsI; rw [HOD.out, if_neg (by omega), if_pos k0, h1]; rfl)
        go_wp2
        go_ret2
        exact ⟨ret_two (by rw [HV.out]; show _ = 8 + depth; omega) (by rw [HV.out]), hb5⟩
    by_cases k1 : s.kind = 1
    · have HV : Hid (bitsI xs s depth = (8 + s.wasted + (depth - s.wasted) * n, 0)) := Lib.hid (by unfold bitsI; rw [HOD.out, if_neg (by omega), if_neg k0, if_pos k1, HL.out])
      have k0b : (s.kind == 0) = false := by rw [beq_eq_false_iff_ne]; exact k0
      clear k0
      go_wp2
      go_ret2
      have hmul : 0 ≤ (depth - s.wasted) * (n : Int) ∧ (depth - s.wasted) * (n : Int) ≤ 33 * 65535 := ⟨Int.mul_nonneg (by omega) (by omega), Int.mul_le_mul (by omega) (by omega) (by omega) (by omega)⟩
      exact ⟨ret_two (by rw [HV.out]; generalize (depth - s.wasted) * (n : Int) = q at *; unfold wrap64; omega) (by rw [HV.out]), hb3⟩
    · have k23 : s.kind = 2 ∨ s.kind = 3 := by omega
      have HV0 : Hid (bitsI xs s depth = bitsTail xs s depth) := Lib.hid (by unfold bitsI; rw [HOD.out, if_neg (by omega), if_neg k0, if_neg k1])
      have k0b : (s.kind == 0) = false := by rw [beq_eq_false_iff_ne]; exact k0
      have k1b : (s.kind == 1) = false := by rw [beq_eq_false_iff_ne]; exact k1
      by_cases he : er = 0
      · subst he
        obtain ⟨o, ho⟩ : ∃ o, orderI s = o := ⟨_, rfl⟩
        have hob := rest_order xs s (by rw [HRR.out]) k23
        have hll := rest_len xs s
        rw [HRR.out, HL.out] at hll
        dsimp only at hll
        rw [ho] at hob
        have HO := Lib.hid ho
        clear ho k0 k1
        obtain ⟨hob1, hob2⟩ := hob
        obtain ⟨pt, hpt⟩ : ∃ pt, partsI lst o s.wide s.po s.ps = pt := ⟨_, rfl⟩
        have HPT := Lib.hid hpt
        clear hpt
        have HV1 : Hid (bitsI xs s depth = if pt < 0 then (0, 1) else (aheadI s depth + pt, 0)) := Lib.hid (by rw [HV0.out]; unfold bitsTail; rw [HRR.out, HO.out]; dsimp only; rw [HPT.out]; simp)
        have hmul : 0 ≤ (depth - s.wasted) * o ∧ (depth - s.wasted) * o ≤ 33 * 32 := ⟨Int.mul_nonneg (by omega) (by omega), Int.mul_le_mul (by omega) (by omega) (by omega) (by omega)⟩
        have hfl : s.fs.length ≤ 9223372036854775807 := HS.out.f.2.1
        rcases k23 with k2 | k3
        · have k3b : (s.kind == 3) = false := by rw [k2]; rfl
          have k2b : (s.kind == 2) = true := by rw [k2]; rfl
          have HK := Lib.hid k2
          clear k2
          go_wp2_with fail
          refine (order_any s wq hfl).mono ?_
          rintro e w4 ⟨rfl, hb4⟩
          rw [HO.out]
          have HBX4 := Lib.hid (HBX3.out.below hb4)
          have hb34 := bt hb3 hb4
          have HRC4 := Lib.hid (HRC3.out.below hb4)
          clear h00 h01 h02 h03 h04 h05 h06 h07 h08 HBX3 hb3 hb4 HRC3
          obtain ⟨h00, h01, h02, h03, h04, h05, h06, h07, h08⟩ := HBX4.out
          go_wp2_with fail
          have HBD := Lib.hid (bd1 w4)
          have hC4 := (HBX4.out.below HBD.out).conj
          have HC4 := Lib.hid hC4
          clear h00 h01 h02 h03 h04 h05 h06 h07 h08
          go_region_held3 (fun w' => w'.cell? ⟨w.heap.size, 0, none⟩ = some (.int .i64 s.kind) ∧ w'.cell? ⟨w.heap.size, 1, none⟩ = some (.int .i64 s.wasted) ∧ w'.cell? ⟨w.heap.size, 2, none⟩ = some (.int .i64 s.order) ∧ w'.cell? ⟨w.heap.size, 3, none⟩ = some (.int .i64 s.shift) ∧ w'.cell? ⟨w.heap.size, 4, none⟩ = some (.int .i64 s.prec) ∧ w'.cell? ⟨w.heap.size, 5, none⟩ = some (.slice s.FA s.fs.length s.fc) ∧ w'.cell? ⟨w.heap.size, 6, none⟩ = some (.bool s.wide) ∧ w'.cell? ⟨w.heap.size, 7, none⟩ = some (.int .i64 s.po) ∧ w'.cell? ⟨w.heap.size, 8, none⟩ = some (.slice s.PA s.ps.length s.pc)) (first | (with_reducible exact HC4.out) | (with_reducible assumption)) (first | (((with_reducible refine (order_any s w4.drew hfl).mono ?_); (rintro e w5 ⟨rfl, hb5⟩); rw [HO.out]; have hk5 := ((HBX4.out.below HBD.out).below hb5).conj)) | (((with_reducible refine (partsBits_any A2 lst.length c2 lst o s.wide s.po s.PA s.pc s.ps _ ((HRC4.out.below HBD.out).below hb5) (by omega) hcap2 (by omega) (((HS.out.below hb34).below HBD.out).below hb5).p HS.out.pl).mono ?_); (rintro e w6 ⟨rfl, hb6⟩); rw [HPT.out]; have hk6 := (((HBX4.out.below HBD.out).below hb5).below hb6).conj)))
          clear hC4 hk5 hk6
          try clear hHeld
          have hbe := bt hb34 (bt HBD.out (bt hb5 hb6))
          have hptb := partsI_bd lst o s.wide s.po s.ps (by omega)
          rw [HPT.out] at hptb
          by_cases hp : pt < 0
          · have HV : Hid (bitsI xs s depth = (0, 1)) := Lib.hid (by rw [HV1.out, if_pos hp])
            go_wp2
            go_ret2
            exact ⟨by rw [HV.out]; rfl, hbe⟩
          · have HV : Hid (bitsI xs s depth = (aheadI s depth + pt, 0)) := Lib.hid (by rw [HV1.out, if_neg hp])
            have HAH : Hid (aheadI s depth = 8 + s.wasted + (depth - s.wasted) * o) := Lib.hid (by unfold aheadI; rw [HO.out]; rw [if_neg (by rw [HK.out]; decide)]; omega)
            generalize (depth - s.wasted) * o = q at *
            go_wp2
            go_ret2
            exact ⟨ret_two (by rw [HV.out]; show _ = aheadI s depth + pt; rw [HAH.out]) (by rw [HV.out]), hbe⟩
        · have hlz := rest_lpc xs s (by rw [HRR.out]) k3
          obtain ⟨y1, y2, y3, y4, y5, y6, y7⟩ := lpcI_zero hlz
          have k3b : (s.kind == 3) = true := by rw [k3]; rfl
          have k2b : (s.kind == 2) = false := by rw [k3]; rfl
          have HK := Lib.hid k3
          have hpl : 0 ≤ s.prec * (s.fs.length : Int) ∧ s.prec * (s.fs.length : Int) ≤ 15 * 32 := ⟨Int.mul_nonneg (by omega) (by omega), Int.mul_le_mul (by omega) (by omega) (by omega) (by omega)⟩
          clear k3 hlz y7
          obtain ⟨hpl1, hpl2⟩ := hpl
          obtain ⟨fl, hfl2⟩ : ∃ fl : Int, s.prec * (s.fs.length : Int) = fl := ⟨_, rfl⟩
          have HFL := Lib.hid hfl2
          rw [hfl2] at hpl1 hpl2
          go_wp2_with fail
          refine (order_any s wq hfl).mono ?_
          rintro e w4 ⟨rfl, hb4⟩
          rw [HO.out]
          have HBX4 := Lib.hid (HBX3.out.below hb4)
          have hb34 := bt hb3 hb4
          have HRC4 := Lib.hid (HRC3.out.below hb4)
          clear h00 h01 h02 h03 h04 h05 h06 h07 h08 HBX3 hb3 hb4 HRC3 hfl2
          obtain ⟨h00, h01, h02, h03, h04, h05, h06, h07, h08⟩ := HBX4.out
          go_wp2_with fail
          have HBD := Lib.hid (bd1 w4)
          have hC4 := (HBX4.out.below HBD.out).conj
          have HC4 := Lib.hid hC4
          clear h00 h01 h02 h03 h04 h05 h06 h07 h08
          go_region_held3 (fun w' => w'.cell? ⟨w.heap.size, 0, none⟩ = some (.int .i64 s.kind) ∧ w'.cell? ⟨w.heap.size, 1, none⟩ = some (.int .i64 s.wasted) ∧ w'.cell? ⟨w.heap.size, 2, none⟩ = some (.int .i64 s.order) ∧ w'.cell? ⟨w.heap.size, 3, none⟩ = some (.int .i64 s.shift) ∧ w'.cell? ⟨w.heap.size, 4, none⟩ = some (.int .i64 s.prec) ∧ w'.cell? ⟨w.heap.size, 5, none⟩ = some (.slice s.FA s.fs.length s.fc) ∧ w'.cell? ⟨w.heap.size, 6, none⟩ = some (.bool s.wide) ∧ w'.cell? ⟨w.heap.size, 7, none⟩ = some (.int .i64 s.po) ∧ w'.cell? ⟨w.heap.size, 8, none⟩ = some (.slice s.PA s.ps.length s.pc)) (first | (with_reducible exact HC4.out) | (with_reducible assumption)) (first | (((with_reducible refine (order_any s w4.drew hfl).mono ?_); (rintro e w5 ⟨rfl, hb5⟩); rw [HO.out]; have hk5 := ((HBX4.out.below HBD.out).below hb5).conj)) | (((with_reducible refine (partsBits_any A2 lst.length c2 lst o s.wide s.po s.PA s.pc s.ps _ ((HRC4.out.below HBD.out).below hb5) (by omega) hcap2 (by omega) (((HS.out.below hb34).below HBD.out).below hb5).p HS.out.pl).mono ?_); (rintro e w6 ⟨rfl, hb6⟩); rw [HPT.out]; have hk6 := (((HBX4.out.below HBD.out).below hb5).below hb6).conj)))
          clear hC4 hk5 hk6
          try clear hHeld
          have hbe := bt hb34 (bt HBD.out (bt hb5 hb6))
          have hptb := partsI_bd lst o s.wide s.po s.ps (by omega)
          rw [HPT.out] at hptb
          by_cases hp : pt < 0
          · have HV : Hid (bitsI xs s depth = (0, 1)) := Lib.hid (by rw [HV1.out, if_pos hp])
            go_wp2
            go_ret2
            exact ⟨by rw [HV.out]; rfl, hbe⟩
          · have HV : Hid (bitsI xs s depth = (aheadI s depth + pt, 0)) := Lib.hid (by rw [HV1.out, if_neg hp])
            have HAH : Hid (aheadI s depth = 8 + s.wasted + (9 + fl) + (depth - s.wasted) * o) := Lib.hid (by unfold aheadI; rw [HO.out, if_pos HK.out, HFL.out])
            generalize (depth - s.wasted) * o = q at *
            go_wp2
            go_ret2
            exact ⟨ret_two (by rw [HV.out]; show _ = aheadI s depth + pt; rw [HAH.out]) (by rw [HV.out]), hbe⟩
      · have HV : Hid (bitsI xs s depth = (0, er)) := Lib.hid (by rw [HV0.out]; unfold bitsTail; rw [HRR.out, if_pos he])
        have heb : (er != 0) = true := by rw [bne_iff_ne]; exact he
        rcases k23 with k2 | k3
        · have k3b : (s.kind == 3) = false := by rw [k2]; rfl
          have k2b : (s.kind == 2) = true := by rw [k2]; rfl
          clear k0 k1 he k2
          go_wp2
          go_ret2
          exact ⟨by rw [HV.out]; rfl, hb3⟩
        · have k3b : (s.kind == 3) = true := by rw [k3]; rfl
          have k2b : (s.kind == 2) = false := by rw [k3]; rfl
          clear k0 k1 he k3
          go_wp2
          go_ret2
          exact ⟨by rw [HV.out]; rfl, hb3⟩
  · have HV : Hid (bitsI xs s depth = (0, od)) := Lib.hid (by unfold bitsI; rw [HOD.out, if_pos c0])
    have c0b : (od != 0) = true := by rw [bne_iff_ne]; exact c0
    clear c0
    go_enter Try.func13, Try.ntmps13
    go_wp2_with fail
    refine (odd_any A n c xs s depth W0 (HR.out.below hb0)).mono ?_
    rintro e w1 ⟨rfl, hb⟩
    rw [HOD.out]
    go_wp2
    go_ret2
    exact ⟨by rw [HV.out]; rfl, bt hb0 hb⟩
end Go.Proofs.Ytdpgojcljlfnbaa
end
