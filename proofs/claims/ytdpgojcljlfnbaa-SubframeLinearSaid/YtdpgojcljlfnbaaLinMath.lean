/- SubframeLinear's plain law: a linear predictor with a fixed one's factors leaves the same. -/
import Derived.Test.YtdpgojcljlfnbaaAwake16
set_option linter.unusedVariables false
set_option linter.unusedSimpArgs false
set_option maxRecDepth 100000
namespace Go.Proofs.Ytdpgojcljlfnbaa
open Go.RowKit
open Go.Proofs.YtdpgojcljlfnbaaW.PrintWords

def linX (ls : List Int) : List Int := ls.map fun l => l.tmod 8388608
/-- A fixed predictor's factors, of order k + 1. -/
def facs : Nat → List Int
  | 0 => [1]
  | 1 => [2, -1]
  | 2 => [3, -3, 1]
  | _ => [4, -6, 4, -1]
def fixV (k : Nat) (wide : Bool) (po : Int) (PA : Option Addr) (ps : List PartV) (pc : Nat) : SubV := ⟨2, 0, (k : Int) + 1, 0, 0, none, [], 0, wide, po, PA, ps, pc⟩
def linV (k : Nat) (FA : Option Addr) (wide : Bool) (po : Int) (PA : Option Addr) (ps : List PartV) (pc : Nat) : SubV := ⟨3, 0, 0, 0, 5, FA, facs k, (facs k).length, wide, po, PA, ps, pc⟩

theorem facs_len {k : Nat} (h : k < 4) : (facs k).length = k + 1 := by
  have hc : k = 0 ∨ k = 1 ∨ k = 2 ∨ k = 3 := by omega
  rcases hc with rfl | rfl | rfl | rfl <;> rfl
theorem rev_take (xs : List Int) (j : Nat) (h : j < xs.length) : (xs.take (j + 1)).reverse = xs.getD j 0 :: (xs.take j).reverse := by
  rw [take_snoc_getD xs j h, List.reverse_append]; rfl
theorem getD_ext (a b : List Int) (h : a.length = b.length) (hg : ∀ d, d < a.length → a.getD d 0 = b.getD d 0) : a = b := by
  apply List.ext_getElem h
  intro i h1 h2
  have := hg i h1
  simpa [List.getD_eq_getElem?_getD, List.getElem?_eq_getElem h1, List.getElem?_eq_getElem h2] using this
theorem lres_get (fs : List Int) (shift : Int) (xs : List Int) (d : Nat) (h : d < xs.length - fs.length) : (lres fs shift xs).getD d 0 = resAt fs shift xs (fs.length + d) := by
  unfold lres
  simp [List.getD_eq_getElem?_getD, List.getElem?_map, List.getElem?_range h]
theorem tell0 (fs : List Int) (xs : List Int) : tellI fs 0 xs = dotI fs xs.reverse := by
  unfold tellI
  rw [show p2 (0 : Int).toNat = 1 from rfl, Int.ediv_one]
theorem lres_diffs (k : Nat) (hk : k < 4) (xs : List Int) : lres (facs k) 0 xs = diffs (k + 1) xs := by
  have hfl := facs_len hk
  apply getD_ext
  · rw [lres_length, diffs_length, hfl]
  intro d hd
  rw [lres_length] at hd
  rw [lres_get _ _ _ _ hd]
  rw [hfl] at hd ⊢
  unfold resAt
  rw [tell0]
  have l1 := diff1_length xs
  have l2 := diff1_length (diff1 xs)
  have l3 := diff1_length (diff1 (diff1 xs))
  have hc : k = 0 ∨ k = 1 ∨ k = 2 ∨ k = 3 := by omega
  rcases hc with rfl | rfl | rfl | rfl
  · rw [show 0 + 1 + d = d + 1 from by omega, rev_take xs d (by omega)]
    simp only [facs, dotI, diffs]
    rw [diff1_get xs d (by omega)]
    omega
  · rw [show 1 + 1 + d = (d + 1) + 1 from by omega, rev_take xs (d + 1) (by omega), rev_take xs d (by omega)]
    simp only [facs, dotI, diffs]
    rw [diff1_get _ d (by omega), diff1_get xs (d + 1) (by omega), diff1_get xs d (by omega)]
    omega
  · rw [show 2 + 1 + d = (d + 1 + 1) + 1 from by omega, rev_take xs (d + 1 + 1) (by omega), rev_take xs (d + 1) (by omega), rev_take xs d (by omega)]
    simp only [facs, dotI, diffs]
    rw [diff1_get _ d (by omega), diff1_get _ (d + 1) (by omega), diff1_get _ d (by omega), diff1_get xs (d + 1 + 1) (by omega), diff1_get xs (d + 1) (by omega), diff1_get xs d (by omega)]
    omega
  · rw [show 3 + 1 + d = (d + 1 + 1 + 1) + 1 from by omega, rev_take xs (d + 1 + 1 + 1) (by omega), rev_take xs (d + 1 + 1) (by omega), rev_take xs (d + 1) (by omega), rev_take xs d (by omega)]
    simp only [facs, dotI, diffs]
    rw [diff1_get _ d (by omega), diff1_get _ (d + 1) (by omega), diff1_get _ d (by omega), diff1_get (diff1 xs) (d + 1 + 1) (by omega), diff1_get (diff1 xs) (d + 1) (by omega), diff1_get (diff1 xs) d (by omega),
      diff1_get xs (d + 1 + 1 + 1) (by omega), diff1_get xs (d + 1 + 1) (by omega), diff1_get xs (d + 1) (by omega), diff1_get xs d (by omega)]
    omega
theorem diffs_bd (k : Nat) (B : Int) (xs : List Int) (h : ∀ x ∈ xs, -B ≤ x ∧ x ≤ B) : ∀ x ∈ diffs k xs, -(p2 k * B) ≤ x ∧ x ≤ p2 k * B := by
  induction k generalizing xs B with
  | zero => intro x hx; have := h x hx; rw [show p2 0 = 1 from rfl]; omega
  | succ k ih =>
    intro x hx
    have := ih (2 * B) (diff1 xs) (diff1_bd xs B h) x hx
    rw [p2_succ, Int.mul_comm 2 (p2 k), Int.mul_assoc]; exact this
theorem diffs_near (k : Nat) (hk : k < 4) (xs : List Int) (h : ∀ x ∈ xs, -8388608 ≤ x ∧ x ≤ 8388608) : (diffs (k + 1) xs).any wideB = false := by
  rw [List.any_eq_false]
  intro x hx
  have h1 := diffs_bd (k + 1) 8388608 xs h x hx
  have h2 : p2 (k + 1) ≤ 16 := by
    have hc : k = 0 ∨ k = 1 ∨ k = 2 ∨ k = 3 := by omega
    rcases hc with rfl | rfl | rfl | rfl <;> decide
  have : p2 (k + 1) * 8388608 ≤ 16 * 8388608 := by omega
  simp only [wideB, Bool.or_eq_true, decide_eq_true_eq]
  omega
theorem down0 (xs : List Int) : downI xs 0 = xs := by
  unfold downI
  rw [show p2 (downBy 0) = 1 from rfl]
  simp
theorem facs_lpc (k : Nat) (hk : k < 4) : lpcI 0 5 (facs k) = 0 := by
  have hc : k = 0 ∨ k = 1 ∨ k = 2 ∨ k = 3 := by omega
  rcases hc with rfl | rfl | rfl | rfl <;> decide
theorem rest_fix (k : Nat) (hk : k < 4) (xs : List Int) (h : ∀ x ∈ xs, -8388608 ≤ x ∧ x ≤ 8388608) (wide : Bool) (po : Int) (PA : Option Addr) (ps : List PartV) (pc : Nat) :
    restI xs (fixV k wide po PA ps pc) = if xs.length < k + 1 then ([], 2) else (diffs (k + 1) xs, 0) := by
  have h1 : residI xs ((k : Int) + 1) = if xs.length < k + 1 then ([], 2) else (diffs (k + 1) xs, 0) := by
    unfold residI
    rw [if_neg (by omega)]
    by_cases hl : xs.length < k + 1
    · rw [if_pos (by omega), if_pos hl]
    · rw [if_neg (by omega), if_neg hl]; rfl
  have h2 := diffs_near k hk xs h
  simp only [restI, fixV, down0, h1]
  by_cases hl : xs.length < k + 1
  · simp [hl]
  · simp [hl, h2]
theorem rest_lin (k : Nat) (hk : k < 4) (xs : List Int) (h : ∀ x ∈ xs, -8388608 ≤ x ∧ x ≤ 8388608) (FA : Option Addr) (wide : Bool) (po : Int) (PA : Option Addr) (ps : List PartV) (pc : Nat) :
    restI xs (linV k FA wide po PA ps pc) = if xs.length < k + 1 then ([], 2) else (diffs (k + 1) xs, 0) := by
  have h2 := diffs_near k hk xs h
  have h1 : lresI (facs k) 0 5 xs = if xs.length < k + 1 then ([], 2) else (diffs (k + 1) xs, 0) := by
    unfold lresI
    rw [facs_lpc k hk, if_neg (by omega), lres_diffs k hk, h2, facs_len hk]
    by_cases hl : xs.length < k + 1
    · rw [if_pos hl, if_pos hl]
    · rw [if_neg hl, if_neg hl]; simp
  simp only [restI, linV, down0, h1]
  by_cases hl : xs.length < k + 1
  · simp [hl]
  · simp [hl, h2]
theorem linX_bd (ls : List Int) : ∀ x ∈ linX ls, -8388608 ≤ x ∧ x ≤ 8388608 := by
  intro x hx
  simp only [linX, List.mem_map] at hx
  obtain ⟨y, _, rfl⟩ := hx
  have h1 := Int.tmod_lt_of_pos y (show (0 : Int) < 8388608 by decide)
  have h2 := Int.lt_tmod_of_pos y (show (0 : Int) < 8388608 by decide)
  omega

theorem tail_ok {xs r : List Int} {s : SubV} {d o a q : Int} (hr : restI xs s = (r, 0)) (ho : orderI s = o) (ha : aheadI s d = a) (hq : partsI r o s.wide s.po s.ps = q) : bitsTail xs s d = if q < 0 then (0, 1) else (a + q, 0) := by
  unfold bitsTail
  rw [hr, ho, ha]
  dsimp only
  rw [hq]
  simp
theorem tail_bad {xs r : List Int} {s : SubV} {d e : Int} (hr : restI xs s = (r, e)) (he : e ≠ 0) : bitsTail xs s d = (0, e) := by
  unfold bitsTail
  rw [hr]
  simp [he]
theorem lin_law (ls : List Int) (k : Nat) (hk : k < 4) (hl : ∀ x ∈ ls, -2147483648 ≤ x ∧ x ≤ 2147483647) (hn : ls.length ≤ 40) (wide : Bool) (po : Int) (PA : Option Addr) (ps : List PartV) (pc : Nat) (FA : Option Addr) :
    ∃ n1 e1, bitsI (linX ls) (fixV k wide po PA ps pc) 24 = (n1, e1) ∧
      ((e1 = 0 ∧ bitsI (linX ls) (linV k FA wide po PA ps pc) 24 = (n1 + 9 + 5 * ((k : Int) + 1), 0) ∧ 0 ≤ n1 ∧ n1 ≤ 1152921504606846976) ∨ (e1 ≠ 0 ∧ n1 = 0 ∧ bitsI (linX ls) (linV k FA wide po PA ps pc) 24 = (0, e1))) := by
  have hb := linX_bd ls
  have hlen : (linX ls).length ≤ 1000000 := by unfold linX; rw [List.length_map]; omega
  generalize linX ls = xs at hb hlen
  have hodd : oddI xs (linV k FA wide po PA ps pc) 24 = oddI xs (fixV k wide po PA ps pc) 24 := by
    simp [oddI, oddBad, fixV, linV, numBad]
  have ho1 : orderI (fixV k wide po PA ps pc) = (k : Int) + 1 := by simp [orderI, fixV]
  have ho2 : orderI (linV k FA wide po PA ps pc) = (k : Int) + 1 := by simp [orderI, linV, facs_len hk]
  have ha1 : aheadI (fixV k wide po PA ps pc) 24 = 8 + 24 * ((k : Int) + 1) := by
    unfold aheadI; rw [ho1]; simp [fixV]
  have ha2 : aheadI (linV k FA wide po PA ps pc) 24 = 17 + 5 * ((k : Int) + 1) + 24 * ((k : Int) + 1) := by
    unfold aheadI; rw [ho2]; simp only [linV, facs_len hk, if_true]; omega
  unfold bitsI
  rw [hodd]
  by_cases h0 : oddI xs (fixV k wide po PA ps pc) 24 = 0
  · rw [h0]
    have e1 : (fixV k wide po PA ps pc).kind = 2 := rfl
    have e2 : (linV k FA wide po PA ps pc).kind = 3 := rfl
    rw [e1, e2]
    simp only [ne_eq, not_true_eq_false, if_false, show ¬((2 : Int) = 0) by decide, show ¬((2 : Int) = 1) by decide, show ¬((3 : Int) = 0) by decide, show ¬((3 : Int) = 1) by decide]
    have hr1 := rest_fix k hk xs hb wide po PA ps pc
    have hr2 := rest_lin k hk xs hb FA wide po PA ps pc
    by_cases hl : xs.length < k + 1
    · rw [if_pos hl] at hr1 hr2
      exact ⟨0, 2, tail_bad hr1 (by decide), .inr ⟨by decide, rfl, tail_bad hr2 (by decide)⟩⟩
    · rw [if_neg hl] at hr1 hr2
      have hdl : (diffs (k + 1) xs).length ≤ 1000000 := by rw [diffs_length]; omega
      have hpb := partsI_bd (diffs (k + 1) xs) ((k : Int) + 1) wide po ps hdl
      obtain ⟨q, hq⟩ : ∃ q, partsI (diffs (k + 1) xs) ((k : Int) + 1) wide po ps = q := ⟨_, rfl⟩
      have t1 := tail_ok hr1 ho1 ha1 hq
      have t2 := tail_ok hr2 ho2 ha2 hq
      rw [hq] at hpb
      rw [t1, t2]
      by_cases hp : q < 0
      · exact ⟨0, 1, by rw [if_pos hp], .inr ⟨by decide, rfl, by rw [if_pos hp]⟩⟩
      · refine ⟨8 + 24 * ((k : Int) + 1) + q, 0, by rw [if_neg hp], .inl ⟨rfl, ?_, by omega, by omega⟩⟩
        rw [if_neg hp]
        simp only [Prod.mk.injEq, and_true]
        omega
  · rw [if_pos h0, if_pos h0]
    exact ⟨0, _, rfl, .inr ⟨h0, rfl, rfl⟩⟩
end Go.Proofs.Ytdpgojcljlfnbaa
