/- The contract of parts.Cuts: how many numbers each part has; the numbers below a thousand millions. -/
import Derived.Test.YtdpgojcljlfnbaaCost
set_option linter.unusedVariables false
set_option linter.unusedSimpArgs false
set_option maxRecDepth 100000
namespace Go.Proofs.Ytdpgojcljlfnbaa
open Go.RowKit
open Go.Proofs.YtdpgojcljlfnbaaW.PrintWords

/-- What each part has at least: the share. -/
def shareI (many order o : Int) : Int := (many + order) / p2 o.toNat
def cutsOk (many order o : Int) : Bool := decide (0 ≤ many) && decide (0 ≤ order) && decide (0 ≤ o) && decide (o ≤ 15) && decide (shareI many order o * p2 o.toNat = many + order) && decide (order < shareI many order o)
def cutsI (many order o : Int) : List Int := if cutsOk many order o then (shareI many order o - order) :: List.replicate (2 ^ o.toNat - 1) (shareI many order o) else []

theorem set_fill (j m : Nat) (s z : Int) (h : j < m) : (List.replicate j s ++ List.replicate (m - j) z).set j s = List.replicate (j + 1) s ++ List.replicate (m - (j + 1)) z := by
  obtain ⟨q, hq⟩ : ∃ q, m - j = q + 1 := ⟨m - j - 1, by omega⟩
  rw [hq, show m - (j + 1) = q from by omega, List.set_append_right _ _ (by simp)]
  rw [List.replicate_succ' (n := j), List.append_assoc]
  simp [List.replicate_succ]

theorem Cuts_any (many order o : Int) (w : World) (hm : many ≤ 1000000000) (ho : order ≤ 1000000000) :
    Calls Try.prog 90 #[.int .i64 many, .int .i64 order, .int .i64 o] w fun e w' => ∃ v, e = .returned v ∧ OwnI w' w.heap.size 3 .i64 v (cutsI many order o) ∧ Below w.heap.size w w' := by
  by_cases c0 : many < 0 ∨ order < 0 ∨ o < 0 ∨ 15 < o
  · have hc : cutsI many order o = [] := by
      unfold cutsI cutsOk
      rcases c0 with h | h | h | h
      · rw [decide_eq_false (p := 0 ≤ many) (by omega)]; rfl
      · rw [decide_eq_false (p := 0 ≤ order) (by omega)]; simp
      · rw [decide_eq_false (p := 0 ≤ o) (by omega)]; simp
      · rw [decide_eq_false (p := o ≤ 15) (by omega)]; simp
    have HC := Lib.hid hc; clear hc
    go_enter Try.func90, Try.ntmps90
    go_wp2
    all_goals first
      | (go_ret; exact ⟨_, rfl, by unfold OwnI; rw [HC.out]; exact own_nil _ _ _ _, Below.refl _ _⟩)
      | (exfalso; omega)
  have a0 : 0 ≤ many := by omega
  have a1 : 0 ≤ order := by omega
  have a2 : 0 ≤ o := by omega
  have a3 : o ≤ 15 := by omega
  clear c0
  obtain ⟨k, rfl⟩ : ∃ k : Nat, o = (k : Int) := ⟨o.toNat, by omega⟩
  have hk : k ≤ 15 := by omega
  obtain ⟨m, hm2⟩ : ∃ m : Nat, 2 ^ k = m := ⟨_, rfl⟩
  have hm1 : 1 ≤ m := by rw [← hm2]; exact Nat.one_le_two_pow
  have hm3 : m ≤ 32768 := by rw [← hm2]; exact Nat.pow_le_pow_right (n := 2) (by decide) hk
  have hpk : wrap64 ((2 : Int) ^ k) = (m : Int) := by
    rw [p2_eq, p2, hm2]; unfold wrap64; omega
  have hmk := print_make (P := Try.prog) 27 3 .i64 8 Try.underlying27 info_int (by decide) m (by omega)
  rw [← hpk] at hmk
  obtain ⟨s, hs⟩ : ∃ s, (many + order) / 2 ^ k = s := ⟨_, rfl⟩
  have hsI : shareI many order k = s := by unfold shareI; rw [← p2_eq]; simpa using hs
  have hs0 : 0 ≤ s := by rw [← hs]; exact Int.ediv_nonneg (by omega) (by rw [p2_eq]; exact Int.le_of_lt (p2_pos _))
  have hs1 : s ≤ 2000000000 := by rw [← hs]; exact Int.le_trans (Int.ediv_le_self _ (by omega)) (by omega)
  have hsw : wrap64 (s * 2 ^ k) = s * 2 ^ k := by
    have e : s * 2 ^ k = s * m := by rw [p2_eq, p2, hm2]
    have h1 : 0 ≤ s * m := Int.mul_nonneg hs0 (by omega)
    have h2 : s * m ≤ 2000000000 * 32768 := Int.mul_le_mul hs1 (by omega) (by omega) (by omega)
    rw [e]; unfold wrap64; omega
  have hP : p2 (k : Int).toNat = 2 ^ k := by rw [p2_eq]; simp
  have HP := Lib.hid hP; have HS := Lib.hid hs; have HI := Lib.hid hsI; have HM := Lib.hid hm2; have HK := Lib.hid hpk
  by_cases c1 : s * 2 ^ k = many + order
  · rw [c1] at hsw
    by_cases c2 : order < s
    · have HC : Hid (cutsI many order k = (s - order) :: List.replicate (m - 1) s) := Lib.hid (by
        unfold cutsI cutsOk
        rw [HI.out, HP.out, c1]
        simp [a0, a1, a3, c2, HM.out])
      have hq : wrap64 (s * 2 ^ k) = many + order := by rw [c1, hsw]
      have hd : (many + order) / 2 ^ k = s := HS.out
      have hq2 : ((many + order) / 2 ^ k ≤ order) = False := eq_false (by rw [HS.out]; omega)
      clear c1 hsw hP hs hsI hm2 hpk
      go_enter Try.func90, Try.ntmps90
      go_wp2
      go_loopw [46] (fun i wr => ∃ j : Nat, j ≤ m ∧ i = .int .i64 j ∧ Hid (wr.ownsRow w.heap.size 3 1 (.slice (some ⟨w.heap.size, 0, none⟩) m m) m (nums .i64 (List.replicate j s ++ List.replicate (m - j) 0))) ∧ Below w.heap.size w wr) (fun i _ => m - (intOf i).toNat)
      case atStart => exact ⟨0, Nat.zero_le _, rfl, Lib.hid (by simpa using own_made w _ 3 .i64 m (Nat.le_refl _) (by omega)), ba _ _⟩
      case round =>
        obtain ⟨j, hj, rfl, hown, hb⟩ := hrel
        by_cases hlt : j < m
        · obtain ⟨hcell, hfz⟩ := own_at hown.out (j : Int) (by omega) (by omega)
          have hst := own_store hown.out (j : Int) s
          simp only [Int.toNat_natCast] at hcell hfz hst
          have HST := Lib.hid hst; clear hst
          go_wp2
          go_roundw
          case rel =>
            refine ⟨j + 1, by omega, by go_num, Lib.hid ?_, hb.setCell (by simp) _⟩
            have h := HST.out.1
            rwa [set_fill _ _ _ _ hlt] at h
          case measure => simp [intOf]; omega
        · obtain rfl : j = m := by omega
          have hx : List.replicate j s ++ List.replicate (j - j) 0 = List.replicate j s := by simp
          have hown := hown.out
          rw [hx] at hown
          obtain ⟨hcell, hfz⟩ := own_at hown 0 (by omega) (by omega)
          have hst := own_store hown 0 (s - order)
          have hr0 : rd (List.replicate j s) 0 = s := by unfold rd; simp [List.getD_eq_getElem?_getD, List.getElem?_replicate, show 0 < j by omega]
          rw [hr0] at hcell
          simp only [Int.toNat_zero] at hcell hfz hst
          have HST := Lib.hid hst; clear hst hr0 hx
          have HO := Lib.hid hown; clear hown
          go_wp2
          go_ret
          refine ⟨_, rfl, ?_, hb.setCell (by simp) _⟩
          have h := HST.out.1
          unfold OwnI
          rw [HC.out]
          have e : (List.replicate j s).set 0 (s - order) = (s - order) :: List.replicate (j - 1) s := by
            obtain ⟨q, rfl⟩ : ∃ q, j = q + 1 := ⟨j - 1, by omega⟩
            simp [List.replicate_succ]
          rw [e] at h
          have e2 : ((s - order) :: List.replicate (j - 1) s).length = j := by simp; omega
          rw [e2]; exact h
    · have HC : Hid (cutsI many order k = []) := Lib.hid (by
        unfold cutsI cutsOk
        rw [HI.out, HP.out, c1]
        simp [a0, a1, a3, c2])
      have hq : wrap64 ((many + order) / 2 ^ k * 2 ^ k) = many + order := by rw [HS.out, c1, hsw]
      have hq2 : (many + order) / 2 ^ k ≤ order := by rw [HS.out]; omega
      clear c1 hsw hP hs hsI hm2 hpk
      go_enter Try.func90, Try.ntmps90
      go_wp2
      go_ret; exact ⟨_, rfl, by unfold OwnI; rw [HC.out]; exact own_nil _ _ _ _, Below.refl _ _⟩
  · have HC : Hid (cutsI many order k = []) := Lib.hid (by
      unfold cutsI cutsOk
      rw [HI.out, HP.out, decide_eq_false c1]
      simp)
    have hq : (wrap64 (s * 2 ^ k) = many + order) = False := eq_false (by rw [hsw]; exact c1)
    have hd : (many + order) / 2 ^ k = s := HS.out
    clear c1 hsw hP hs hsI hm2 hpk
    go_enter Try.func90, Try.ntmps90
    go_wp2
    all_goals first
      | (go_ret; exact ⟨_, rfl, by unfold OwnI; rw [HC.out]; exact own_nil _ _ _ _, Below.refl _ _⟩)
end Go.Proofs.Ytdpgojcljlfnbaa
