/- Whether all of some numbers are one, by slices.Compact. -/
import Derived.Test.YtdpgojcljlfnbaaRest
import Derived.Test.YtdpgojcljlfnbaaShelf
set_option linter.unusedVariables false
set_option linter.unusedSimpArgs false
set_option maxRecDepth 100000
namespace Go.Proofs.Ytdpgojcljlfnbaa
open Go.RowKit
open Go.Proofs.YtdpgojcljlfnbaaW.PrintWords

/-- Are all numbers one? -/
def oneI (xs : List Int) : Bool := xs.all fun x => x == xs.getD 0 0
theorem compact_one (xs : List Int) (h : xs ≠ []) : (1 < (Lib.compact xs).length) ↔ oneI xs = false := by
  obtain ⟨a, l, rfl⟩ := List.exists_cons_of_ne_nil h
  have hget : ∀ j, (h : j < (a :: l).length) → (a :: l).toArray[j]! = (a :: l).getD j 0 := by
    intro j hj
    simp [List.getD_eq_getElem?_getD, List.getElem?_eq_getElem hj, getElem!_pos, hj]
  have hk0 : Lib.keeps (a :: l).toArray 0 = true := by simp [Lib.keeps]
  have hlen : (Lib.compact (a :: l)).length = ((List.range (a :: l).length).filter (Lib.keeps (a :: l).toArray)).length := by
    unfold Lib.compact Lib.compactUpTo; rw [List.length_map]
  rw [hlen]
  have hr : List.range (a :: l).length = 0 :: (List.range l.length).map (· + 1) := by
    rw [List.length_cons, List.range_succ_eq_map]
  rw [hr, List.filter_cons, if_pos hk0, List.length_cons]
  have hpos : (1 < ((((List.range l.length).map (· + 1)).filter (Lib.keeps (a :: l).toArray)).length + 1)) ↔ ∃ j, j < l.length ∧ Lib.keeps (a :: l).toArray (j + 1) = true := by
    constructor
    · intro h1
      obtain ⟨q, hq⟩ := List.exists_mem_of_length_pos (l := (((List.range l.length).map (· + 1)).filter (Lib.keeps (a :: l).toArray))) (by omega)
      simp only [List.mem_filter, List.mem_map, List.mem_range] at hq
      obtain ⟨⟨j, hj, rfl⟩, hk⟩ := hq
      exact ⟨j, hj, hk⟩
    · rintro ⟨j, hj, hk⟩
      have : (j + 1) ∈ (((List.range l.length).map (· + 1)).filter (Lib.keeps (a :: l).toArray)) := by
        simp only [List.mem_filter, List.mem_map, List.mem_range]
        exact ⟨⟨j, hj, rfl⟩, hk⟩
      have := List.length_pos_of_mem this
      omega
  rw [hpos]
  have hkeep : ∀ j, j < l.length → (Lib.keeps (a :: l).toArray (j + 1) = true ↔ (a :: l).getD (j + 1) 0 ≠ (a :: l).getD j 0) := by
    intro j hj
    unfold Lib.keeps
    rw [hget (j + 1) (by simp; omega), show j + 1 - 1 = j from rfl, hget j (by simp; omega)]
    simp
  constructor
  · rintro ⟨j, hj, hk⟩
    rw [hkeep j hj] at hk
    unfold oneI
    rw [List.all_eq_false]
    rcases Classical.em ((a :: l).getD j 0 = a) with h1 | h1
    · refine ⟨(a :: l).getD (j + 1) 0, getD_mem _ _ (by simp; omega), ?_⟩
      simp only [beq_iff_eq]; intro h2; rw [h1] at hk; exact hk (by simpa using h2)
    · refine ⟨(a :: l).getD j 0, getD_mem _ _ (by simp; omega), ?_⟩
      simp only [beq_iff_eq]; intro h2; exact h1 (by simpa using h2)
  · intro h1
    apply Classical.byContradiction
    intro h2
    have hall : ∀ j, j < l.length + 1 → (a :: l).getD j 0 = a := by
      intro j
      induction j with
      | zero => intro _; rfl
      | succ j ih =>
        intro hj
        have h3 := ih (by omega)
        apply Classical.byContradiction
        intro h4
        exact h2 ⟨j, by omega, (hkeep j (by omega)).2 (by rw [h3]; exact h4)⟩
    unfold oneI at h1
    rw [List.all_eq_false] at h1
    obtain ⟨x, hx, hne⟩ := h1
    obtain ⟨j, hj, rfl⟩ := List.mem_iff_getElem.1 hx
    have := hall j (by simpa using hj)
    apply hne
    simp only [beq_iff_eq]
    rw [List.getD_eq_getElem?_getD, List.getElem?_eq_getElem hj, Option.getD_some] at this
    rw [this]; rfl

theorem Compact_any (v : Value) (xs : List Int) (base : Nat) (w w0 : World) (ho : w.ownsRow base 3 1 v xs.length (nums .i64 xs)) (hne : xs ≠ []) (hb : Below w0.heap.size w0 w) (hbase : w0.heap.size ≤ base) :
    Calls Try.prog 51 #[v] w fun e w' => ∃ A n c, e = .returned (.slice A n c) ∧ (1 < n ↔ oneI xs = false) ∧ n ≤ xs.length ∧ Below w0.heap.size w0 w' := by
  have hlp : 0 < xs.length := List.length_pos_iff.2 hne
  obtain ⟨g, cap, hv, hgb, hgl⟩ := ho.form hlp
  subst hv
  have hcap := own_cap ho
  have hmax : xs.length ≤ 9223372036854775807 := by
    rcases ho.2 with ⟨h, _⟩ | ⟨g', cap', cur, hv, _, hh, h3, h4, _⟩
    · cases h
    · simp only [maxLen] at h4; omega
  refine (Try.slices_Compact_int_cells g 0 xs.length cap xs w (Nat.le_refl _) hmax hcap ?_ ?_).mono ?_
  · intro j hj
    have h := (own_at ho (j : Int) (by omega) (by omega)).1
    rw [Int.toNat_natCast] at h
    rw [Nat.zero_add, h]; unfold rd; rw [Int.toNat_natCast]
  · intro j hj
    have h := (own_at ho (j : Int) (by omega) (by omega)).2
    rw [Int.toNat_natCast] at h
    rw [Nat.zero_add, h]
  · rintro e w' ⟨rfl, q, rfl⟩
    rw [List.take_length]
    refine ⟨_, _, _, rfl, compact_one xs hne, ?_, ?_⟩
    · unfold Lib.compact Lib.compactUpTo
      rw [List.length_map]
      exact Nat.le_trans (List.length_filter_le _ _) (by simp)
    · have h1 := setCells_same g ((Lib.compact xs ++ List.replicate (xs.length - (Lib.compact xs).length) 0).map (Value.int .i64)) 0 (w.drewN q)
      have h2 : Below w0.heap.size w0 (w.drewN q) := pw_below_drewN hb q
      exact ⟨h1.1.trans h2.os, h1.2.1.trans h2.tape, h1.2.2.1.trans h2.output, by rw [h1.2.2.2]; exact h2.size, fun k hk => (setCells_far _ _ k (by omega)).trans (h2.block k hk)⟩
end Go.Proofs.Ytdpgojcljlfnbaa
