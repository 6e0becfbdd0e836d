/- Contracts of package lpc: Check, tell, Residual; of the numbers: from -2^40 to 2^40. -/
import Derived.Test.YtdpgojcljlfnbaaFixed
import Derived.Deep.RegionHeld3
set_option linter.unusedVariables false
set_option linter.unusedSimpArgs false
set_option maxRecDepth 100000
namespace Go.Proofs.Ytdpgojcljlfnbaa
open Go.RowKit
open Go.Proofs.YtdpgojcljlfnbaaW.PrintWords

theorem lpcCheck1_any (n : Int) (b : Nat) (prec : Int) (w : World) (h : w.cell? ⟨b, 1, none⟩ = some (.int .i64 prec)) :
    Calls Try.prog 150 #[.int .i64 n, .pointer (some ⟨b, 0, none⟩)] w fun e w' => e = .returned (.bool (!inDepth n prec)) ∧ w = w' := by
  go_enter Try.func150, Try.ntmps150
  go_wp2_with (go_at_call 85; refine (In_any _ _ _).mono ?_; rintro e w' ⟨rfl, rfl⟩)
  go_ret
  exact ⟨rfl, rfl⟩

/-- What lpc.Check tells. -/
def lpcBad (shift prec : Int) (fs : List Int) : Bool := decide (fs.length < 1) || decide (32 < fs.length) || decide (prec < 1) || decide (15 < prec) || decide (shift < 0) || decide (15 < shift)
def lpcI (shift prec : Int) (fs : List Int) : Int := if lpcBad shift prec fs then 1 else if fs.any (fun f => !inDepth f prec) then 1 else 0

theorem lpcCheck_any (A : Option Addr) (n c : Nat) (fs : List Int) (shift prec : Int) (w : World) (hr : ReadsInt w .i64 A n fs) :
    Calls Try.prog 123 #[.agg #[.int .i64 shift, .int .i64 prec, .slice A n c]] w fun e w' => e = .returned (.int .i64 (lpcI shift prec fs)) ∧ Below w.heap.size w w' := by
  have HR := Lib.hid hr
  have hl := hr.1
  have hm := hr.2.1
  clear hr
  subst hl
  by_cases hbad : lpcBad shift prec fs = true
  · have HV : Hid (lpcI shift prec fs = 1) := Lib.hid (by unfold lpcI; rw [if_pos hbad])
    simp only [lpcBad, Bool.or_eq_true, decide_eq_true_eq] at hbad
    go_enter Try.func123, Try.ntmps123
    go_wp2_with fail
    all_goals first
      | (go_ret; exact ⟨ret_int HV.out.symm, ba _ _⟩)
      | (exfalso; omega)
  · have HB : Hid (lpcBad shift prec fs = false) := Lib.hid (by simpa using hbad)
    simp only [lpcBad, Bool.or_eq_true, decide_eq_true_eq, not_or] at hbad
    obtain ⟨⟨⟨⟨⟨b1, b2⟩, b3⟩, b4⟩, b5⟩, b6⟩ := hbad
    have b1' : decide (fs.length < 1) = false := decide_eq_false b1
    have b2' : decide (32 < fs.length) = false := decide_eq_false b2
    have b3' : decide (prec < 1) = false := decide_eq_false b3
    have b4' : decide (15 < prec) = false := decide_eq_false b4
    have b5' : decide (shift < 0) = false := decide_eq_false b5
    go_enter Try.func123, Try.ntmps123
    go_wp2_with fail
    have hbox : (w.alloc (Obj.cells #[.int .i64 shift, .int .i64 prec, .slice A fs.length c] 30)).cell? ⟨w.heap.size, 1, none⟩ = some (.int .i64 prec) := by simp [go_sem]
    have HBOX := Lib.hid hbox; clear hbox
    refine (ContainsFunc_any A _ c fs 150 #[] #[.pointer (some ⟨w.heap.size, 0, none⟩)] (fun f => !inDepth f prec) _ (HR.out.below (ba _ _)) (fun _ _ => by kernel_rfl) (fun W hW x _ => (lpcCheck1_any x w.heap.size prec W (pw_cell_below hW HBOX.out)).mono fun e w' ⟨he, hw⟩ => ⟨he, hw ▸ Below.refl _ _⟩)).mono ?_
    rintro e w1 ⟨rfl, hb⟩
    cases hany : fs.any fun f => !inDepth f prec
    · have HV : Hid (lpcI shift prec fs = 0) := Lib.hid (by unfold lpcI; rw [HB.out, hany]; rfl)
      clear hany
      go_wp2
      go_ret
      exact ⟨ret_int HV.out.symm, bt (ba _ _) hb⟩
    · have HV : Hid (lpcI shift prec fs = 1) := Lib.hid (by unfold lpcI; rw [HB.out, hany]; rfl)
      clear hany
      go_wp2
      go_ret
      exact ⟨ret_int HV.out.symm, bt (ba _ _) hb⟩

theorem mul_abs_le (a b B C : Int) (ha : -B ≤ a ∧ a ≤ B) (hb : -C ≤ b ∧ b ≤ C) (hB : 0 ≤ B) (hC : 0 ≤ C) : a * b ≤ B * C := by
  rcases Int.le_total 0 a with h | h
  · exact Int.le_trans (Int.mul_le_mul_of_nonneg_left hb.2 h) (Int.mul_le_mul_of_nonneg_right ha.2 hC)
  · have h1 : a * b ≤ a * (-C) := Int.mul_le_mul_of_nonpos_left h hb.1
    have h2 : (-a) * C ≤ B * C := Int.mul_le_mul_of_nonneg_right (by omega) hC
    rw [Int.mul_neg] at h1; rw [Int.neg_mul] at h2; omega

/-- Factors times numbers, the numbers of the end first. -/
def dotI : List Int → List Int → Int
  | f :: fs, x :: rs => f * x + dotI fs rs
  | _, _ => 0
def tellI (fs : List Int) (shift : Int) (xs : List Int) : Int := dotI fs xs.reverse / p2 shift.toNat
theorem dotI_snoc (fs rs : List Int) (f x : Int) (h : fs.length < rs.length) (hx : rs.getD fs.length 0 = x) : dotI (fs ++ [f]) rs = dotI fs rs + f * x := by
  induction fs generalizing rs with
  | nil =>
    cases rs with
    | nil => simp at h
    | cons r rs => simp at hx; simp [dotI, hx]
  | cons g fs ih =>
    cases rs with
    | nil => simp at h
    | cons r rs =>
      simp only [List.cons_append, dotI]
      rw [ih rs (by simpa using h) (by simpa using hx)]
      omega
theorem dotI_bd (fs rs : List Int) (B C : Int) (hC : 0 ≤ C) (hB : 0 ≤ B) (hf : ∀ f ∈ fs, -B ≤ f ∧ f ≤ B) (hr : ∀ x ∈ rs, -C ≤ x ∧ x ≤ C) : -(B * C * fs.length) ≤ dotI fs rs ∧ dotI fs rs ≤ B * C * fs.length := by
  induction fs generalizing rs with
  | nil => simp [dotI]
  | cons f fs ih =>
    cases rs with
    | nil => have := Int.mul_nonneg (Int.mul_nonneg hB hC) (show (0 : Int) ≤ ((f :: fs).length : Int) by omega); simp only [dotI]; omega
    | cons x rs =>
      have h1 := hf f (by simp)
      have h2 := hr x (by simp)
      have h3 := ih rs (fun g hg => hf g (by simp [hg])) (fun y hy => hr y (by simp [hy]))
      have h4 : f * x ≤ B * C := mul_abs_le f x B C h1 h2 hB hC
      have h5 : -(f * x) ≤ B * C := by
        have := mul_abs_le (-f) x B C (by omega) h2 hB hC
        rwa [Int.neg_mul] at this
      simp only [dotI, List.length_cons]
      rw [Int.natCast_add, Int.mul_add]
      omega
theorem rev_getD (xs : List Int) (i : Nat) (h : i < xs.length) : xs.reverse.getD i 0 = xs.getD (xs.length - 1 - i) 0 := by
  simp only [List.getD_eq_getElem?_getD]
  rw [List.getElem?_reverse h]

theorem tell_any (A : Option Addr) (n c : Nat) (xs : List Int) (FA : Option Addr) (fc : Nat) (fs : List Int) (shift prec : Int) (w : World) (hr : ReadsInt w .i64 A n xs) (hf : ReadsInt w .i64 FA fs.length fs)
    (hn : fs.length ≤ n) (h32 : fs.length ≤ 32) (hs : 0 ≤ shift) (hs2 : shift ≤ 15) (hx : ∀ x ∈ xs, -1099511627776 ≤ x ∧ x ≤ 1099511627776) (hF : ∀ f ∈ fs, -16384 ≤ f ∧ f ≤ 16384) :
    Calls Try.prog 124 #[.agg #[.int .i64 shift, .int .i64 prec, .slice FA fs.length fc], .slice A n c] w fun e w' => e = .returned (.int .i64 (tellI fs shift xs)) ∧ Below w.heap.size w w' := by
  have HR := Lib.hid hr
  have HF := Lib.hid hf
  have HX := Lib.hid hx
  have HFB := Lib.hid hF
  have HL := Lib.hid hr.1
  have hnm := hr.2.1
  clear hr hf hx hF
  obtain ⟨k, hk⟩ : ∃ k, fs.length = k := ⟨_, rfl⟩
  rw [hk] at hn h32
  have HK := Lib.hid hk
  have hsh : 0 ≤ shift ∧ shift ≤ 63 := by omega
  go_enter Try.func124, Try.ntmps124
  go_wp2
  rw [hk]
  clear hk
  go_loop [5, 11] (fun s i => ∃ j : Nat, j ≤ k ∧ i = .int .i64 j ∧ s = .int .i64 (dotI (fs.take j) xs.reverse)) (fun _ i => k - (intOf i).toNat)
  case atStart => exact ⟨0, Nat.zero_le _, rfl, rfl⟩
  case round =>
    obtain ⟨j, hj, rfl, rfl⟩ := hrel
    by_cases hlt : j < k
    · have hb0 := ba w (Obj.cells #[.int .i64 shift, .int .i64 prec, .slice FA k fc] 183)
      obtain ⟨fa, rfl, hfc⟩ := rd_nat (HF.out.below hb0) (show j < fs.length by rw [HK.out]; exact hlt)
      obtain ⟨xa, rfl, hxc⟩ := rd_nat (HR.out.below hb0) (show n - 1 - j < n by omega)
      clear hb0
      have hjf : j < fs.length := by rw [HK.out]; exact hlt
      have hjx : n - 1 - j < xs.length := by rw [HL.out]; omega
      have hf1 := HFB.out _ (getD_mem fs j hjf)
      have hx1 := HX.out _ (getD_mem xs (n - 1 - j) hjx)
      have hts := take_snoc_getD fs j hjf
      have hrg := rev_getD xs j (by rw [HL.out]; omega)
      rw [HL.out] at hrg
      obtain ⟨f, hf⟩ : ∃ f, fs.getD j 0 = f := ⟨_, rfl⟩
      obtain ⟨x, hx⟩ : ∃ x, xs.getD (n - 1 - j) 0 = x := ⟨_, rfl⟩
      rw [hf] at hfc hf1 hts
      rw [hx] at hxc hx1 hrg
      have hjl : (fs.take j).length = j := by rw [List.length_take]; omega
      have hsn := dotI_snoc (fs.take j) xs.reverse f x (by rw [hjl, List.length_reverse, HL.out]; omega) (by rw [hjl]; exact hrg)
      rw [← hts] at hsn
      have hb1 := dotI_bd (fs.take j) xs.reverse 16384 1099511627776 (by omega) (by omega) (fun g hg => HFB.out g (List.mem_of_mem_take hg)) (fun y hy => HX.out y (List.mem_reverse.1 hy))
      rw [hjl] at hb1
      have hm1 := mul_abs_le f x 16384 1099511627776 hf1 hx1 (by omega) (by omega)
      have hm2 := mul_abs_le (-f) x 16384 1099511627776 (by omega) hx1 (by omega) (by omega)
      rw [Int.neg_mul] at hm2
      have HW : Hid (wrap64 (dotI (fs.take j) xs.reverse + wrap64 (f * x)) = dotI (fs.take (j + 1)) xs.reverse) := Lib.hid (by
        rw [hsn]
        generalize f * x = fx at *
        have e : wrap64 fx = fx := by unfold wrap64; omega
        rw [e]; unfold wrap64; omega)
      clear hsn hb1 hm1 hm2 hts hrg hf hx hf1 hx1 hjl hjf hjx
      go_wp2
      go_round
      case rel => exact ⟨j + 1, by omega, by go_num, by rw [HW.out]⟩
      case measure => simp [intOf]; omega
    · obtain rfl : j = k := by omega
      go_wp2
      go_ret
      exact ⟨ret_int (by unfold tellI; rw [List.take_of_length_le (by rw [HK.out]; exact Nat.le_refl _), p2_eq]), ba _ _⟩

theorem tellI_bd (fs : List Int) (shift : Int) (xs : List Int) (h32 : fs.length ≤ 32) (hx : ∀ x ∈ xs, -1099511627776 ≤ x ∧ x ≤ 1099511627776) (hF : ∀ f ∈ fs, -16384 ≤ f ∧ f ≤ 16384) : -576460752303423488 ≤ tellI fs shift xs ∧ tellI fs shift xs ≤ 576460752303423488 := by
  have h := dotI_bd fs xs.reverse 16384 1099511627776 (by omega) (by omega) hF (fun y hy => hx y (List.mem_reverse.1 hy))
  have hp := p2_pos shift.toNat
  unfold tellI
  generalize dotI fs xs.reverse = s at h ⊢
  constructor
  · exact Int.le_ediv_of_mul_le hp (by
      have : -576460752303423488 * p2 shift.toNat ≤ -576460752303423488 * 1 := Int.mul_le_mul_of_nonpos_left (by omega) (by omega)
      omega)
  · exact Int.le_trans (b := max s 0) (by
      rcases Int.le_total 0 s with h0 | h0
      · have := Int.ediv_le_self (p2 shift.toNat) h0; omega
      · have : s / p2 shift.toNat ≤ 0 := Int.ediv_le_of_le_mul hp (by omega)
        omega) (by omega)

/-- What is left at a place. -/
def resAt (fs : List Int) (shift : Int) (xs : List Int) (i : Nat) : Int := xs.getD i 0 - tellI fs shift (xs.take i)
def lres (fs : List Int) (shift : Int) (xs : List Int) : List Int := (List.range (xs.length - fs.length)).map fun d => resAt fs shift xs (fs.length + d)
/-- What lpc.Residual tells. -/
def lresI (fs : List Int) (shift prec : Int) (xs : List Int) : List Int × Int :=
  if lpcI shift prec fs ≠ 0 then ([], lpcI shift prec fs) else if xs.length < fs.length then ([], 2) else if (lres fs shift xs).any wideB then ([], 14) else (lres fs shift xs, 0)

theorem lpcI_zero {shift prec : Int} {fs : List Int} (h : lpcI shift prec fs = 0) : 1 ≤ fs.length ∧ fs.length ≤ 32 ∧ 0 ≤ shift ∧ shift ≤ 15 ∧ 1 ≤ prec ∧ prec ≤ 15 ∧ (∀ f ∈ fs, -16384 ≤ f ∧ f ≤ 16384) := by
  unfold lpcI at h
  split at h
  · omega
  · rename_i hb
    split at h
    · omega
    · rename_i ha
      simp only [lpcBad, Bool.or_eq_true, decide_eq_true_eq, not_or] at hb
      obtain ⟨⟨⟨⟨⟨b1, b2⟩, b3⟩, b4⟩, b5⟩, b6⟩ := hb
      refine ⟨by omega, by omega, by omega, by omega, by omega, by omega, fun f hf => ?_⟩
      simp only [List.any_eq_true, not_exists, not_and] at ha
      have h1 : inDepth f prec = true := by simpa using ha f hf
      unfold inDepth at h1
      simp only [Bool.and_eq_true, decide_eq_true_eq] at h1
      have h2 : p2 (prec - 1).toNat ≤ 16384 := by
        have h3 : 2 ^ (prec - 1).toNat ≤ 2 ^ 14 := Nat.pow_le_pow_right (by decide) (by omega)
        unfold p2; omega
      omega

set_option maxHeartbeats 2000000 in
theorem lpcResidual_any (A : Option Addr) (n c : Nat) (xs : List Int) (FA : Option Addr) (fc : Nat) (fs : List Int) (shift prec : Int) (w : World) (hr : ReadsInt w .i64 A n xs) (hf : ReadsInt w .i64 FA fs.length fs)
    (hnc : n ≤ c) (hn : n ≤ 1000000) (hx : ∀ x ∈ xs, -1099511627776 ≤ x ∧ x ≤ 1099511627776) :
    Calls Try.prog 87 #[.slice A n c, .agg #[.int .i64 shift, .int .i64 prec, .slice FA fs.length fc]] w fun e w' => ∃ v, e = .returned (.tuple #[v, .int .i64 (lresI fs shift prec xs).2]) ∧ OwnI w' w.heap.size 3 .i64 v (lresI fs shift prec xs).1 ∧ Below w.heap.size w w' := by
  have HR := Lib.hid hr
  have HF := Lib.hid hf
  have HX := Lib.hid hx
  have HL := Lib.hid hr.1
  clear hr hf hx
  obtain ⟨ck, hck⟩ : ∃ ck, lpcI shift prec fs = ck := ⟨_, rfl⟩
  have HCK := Lib.hid hck
  clear hck
  obtain ⟨W0, hW0⟩ : ∃ W0, w.alloc (Obj.cells #[.int .i64 shift, .int .i64 prec, .slice FA fs.length fc] 30) = W0 := ⟨_, rfl⟩
  have h00 : W0.cell? ⟨w.heap.size, 0, none⟩ = some (.int .i64 shift) := by rw [← hW0]; simp [go_sem]
  have h01 : W0.cell? ⟨w.heap.size, 1, none⟩ = some (.int .i64 prec) := by rw [← hW0]; simp [go_sem]
  have h02 : W0.cell? ⟨w.heap.size, 2, none⟩ = some (.slice FA fs.length fc) := by rw [← hW0]; simp [go_sem]
  have hb0 : Below w.heap.size w W0 := by rw [← hW0]; exact ba _ _
  by_cases c1 : ck = 0
  · subst c1
    obtain ⟨z1, z2, z3, z4, z5, z6, z7⟩ := lpcI_zero HCK.out
    have Z7 := Lib.hid z7
    clear z7
    by_cases c2 : n < fs.length
    · have HV : Hid (lresI fs shift prec xs = ([], 2)) := Lib.hid (by unfold lresI; rw [HCK.out, HL.out]; simp [c2])
      go_enter Try.func87, Try.ntmps87
      go_wp2_with (go_at_call 123; refine (lpcCheck_any _ _ _ fs shift prec _ (HF.out.below hb0)).mono ?_; rintro e w1 ⟨rfl, hb⟩; rw [HCK.out]; obtain ⟨hc, hf⟩ := bcell hb)
      have w00 : w1.cell? ⟨w.heap.size, 0, none⟩ = some (.int .i64 shift) := pw_cell_below hb h00
      have w01 : w1.cell? ⟨w.heap.size, 1, none⟩ = some (.int .i64 prec) := pw_cell_below hb h01
      have w02 : w1.cell? ⟨w.heap.size, 2, none⟩ = some (.slice FA fs.length fc) := pw_cell_below hb h02
      go_quiet (fail)
      go_wp2
      go_ret2
      exact ⟨_, by rw [HV.out]; rfl, by rw [HV.out]; exact own_nil _ _ _ _, bt hb0 (bt hb (bd _ _))⟩
    · obtain ⟨k, hk⟩ : ∃ k, fs.length = k := ⟨_, rfl⟩
      have HK := Lib.hid hk
      rw [hk] at h02 z1 z2 c2 hW0
      obtain ⟨m, rfl⟩ : ∃ m, n = k + m := ⟨n - k, by omega⟩
      have HM : Hid ((lres fs shift xs).length = m) := Lib.hid (by unfold lres; rw [List.length_map, List.length_range, HL.out, HK.out]; omega)
      rw [hk]
      clear hk c2
      have c2 : ¬ k + m < k := by omega
      go_enter Try.func87, Try.ntmps87
      go_wp2_with fail
      have HCHK := Lib.hid (lpcCheck_any FA fs.length fc fs shift prec W0 (HF.out.below hb0))
      have hchk := HCHK.out
      rw [HK.out] at hchk
      have HCHK2 := Lib.hid hchk
      clear hchk HCHK
      refine HCHK2.out.mono ?_
      rintro e w1 ⟨rfl, hb⟩
      rw [HCK.out]
      have w00 : w1.cell? ⟨w.heap.size, 0, none⟩ = some (.int .i64 shift) := pw_cell_below hb h00
      have w01 : w1.cell? ⟨w.heap.size, 1, none⟩ = some (.int .i64 prec) := pw_cell_below hb h01
      have w02 : w1.cell? ⟨w.heap.size, 2, none⟩ = some (.slice FA k fc) := pw_cell_below hb h02
      go_wp2
      go_quiet (fail)
      have hbq : Below w1.heap.size w1 (w1.drewN nq) := bd _ _
      have HWQ : Hid (∃ W, W = w1.drewN nq) := Lib.hid ⟨_, rfl⟩
      go_wp2
      generalize w1.drewN nq = wq at *
      clear w00 w01 w02 h00 h01 h02 hW0
      have hb2 : Below w.heap.size w wq := bt hb0 (bt hb hbq)
      have HRq := Lib.hid (HR.out.below hb2)
      have HFq := Lib.hid (HF.out.below hb2)
      clear hb hbq hb0 HWQ
      go_loopw [9, 10] (fun v i wr => Hid (∃ j : Nat, j ≤ m ∧ i = .int .i64 ((k + j : Nat) : Int) ∧ wr.ownsRow wq.heap.size 3 1 v j (nums .i64 ((lres fs shift xs).take j)) ∧ ((lres fs shift xs).take j).any wideB = false ∧ Below wq.heap.size wq wr)) (fun _ i _ => k + m - (intOf i).toNat)
      case atStart => exact Lib.hid ⟨0, Nat.zero_le _, rfl, own_nil _ _ _ _, rfl, Below.refl _ _⟩
      case round =>
        obtain ⟨j, hj, rfl, hown, hany, hbr⟩ := hrel.out
        clear hrel
        have HO := Lib.hid hown; have HANY := Lib.hid hany
        clear hown hany
        by_cases hlt : j < m
        · obtain ⟨q, hq⟩ : ∃ q, k + j = q := ⟨_, rfl⟩
          have hqn : q < k + m := by omega
          have hkq : k ≤ q := by omega
          obtain ⟨ax, rfl, hxc⟩ := rd_nat (HRq.out.below hbr) hqn
          have hxm := HX.out _ (getD_mem xs q (by rw [HL.out]; exact hqn))
          obtain ⟨x, hx⟩ : ∃ x, xs.getD q 0 = x := ⟨_, rfl⟩
          rw [hx] at hxc hxm
          obtain ⟨tl, htl⟩ : ∃ t, tellI fs shift (xs.take q) = t := ⟨_, rfl⟩
          have hat : (lres fs shift xs).getD j 0 = x - tl := by
            have e : (lres fs shift xs)[j]? = some (resAt fs shift xs (fs.length + j)) := by
              unfold lres
              rw [List.getElem?_map, List.getElem?_range (by rw [HL.out, HK.out]; omega)]; rfl
            rw [List.getD_eq_getElem?_getD, e, Option.getD_some, resAt, HK.out, hq, hx, htl]
          have hsn := take_snoc_getD (lres fs shift xs) j (by rw [HM.out]; exact hlt)
          rw [hat] at hsn
          have hRT := (HRq.out.below hbr).take_ q (by omega)
          have hTE : ∀ W, Below wr.heap.size wr W → Calls Try.prog 124 #[.agg #[.int .i64 shift, .int .i64 prec, .slice FA k fc], .slice (some ax) q c] W fun e w' => e = .returned (.int .i64 tl) ∧ Below W.heap.size W w' := by
            intro W hW
            have h := tell_any (some ax) q c (xs.take q) FA fc fs shift prec W (hRT.below hW) ((HFq.out.below hbr).below hW) (by rw [HK.out]; exact hkq) (by rw [HK.out]; exact z2) z3 z4 (fun y hy => HX.out y (List.mem_of_mem_take hy)) Z7.out
            rwa [HK.out, htl] at h
          have htb : -576460752303423488 ≤ tl ∧ tl ≤ 576460752303423488 := by
            rw [← htl]
            exact tellI_bd fs shift (xs.take q) (by rw [HK.out]; exact z2) (fun y hy => HX.out y (List.mem_of_mem_take hy)) Z7.out
          have HTE := Lib.hid hTE; have HAT := Lib.hid hat; have HSN := Lib.hid hsn; have HQ := Lib.hid hq
          have hto := run_cut_to Try.underlying27 info_int (some ax) (k + m) c q (by omega) hnc
          have hxw : IntKind.i64.wrap (x - tl) = x - tl := IntWalk.i64_in _ (by omega)
          have e1 : (q : Int) < ((k : Int) + m) := by omega
          have e2 : (0 : Int) ≤ (q : Int) := by omega
          obtain ⟨hxm1, hxm2⟩ := hxm
          obtain ⟨htb1, htb2⟩ := htb
          have hxd : wr.drew.cell? (ax.add q) = some (.int .i64 x) := hxc
          have HXC := Lib.hid hxd
          have HBD := Lib.hid (bd1 wr)
          clear hxc hxd
          clear hTE hat hsn hx htl hRT
          rw [hq]
          clear hq
          go_wp2
          go_region_held3 (fun w' => w'.cell? (ax.add q) = some (.int .i64 x)) (first | (with_reducible exact HXC.out) | (with_reducible assumption)) ((((with_reducible refine (HTE.out wr.drew HBD.out).mono ?_); (rintro e w5 ⟨rfl, hb5⟩); have hk5 : w5.cell? (ax.add q) = some (.int .i64 x) := pw_cell_below hb5 HXC.out)))
          obtain ⟨y, hy⟩ : ∃ y, x - tl = y := ⟨_, rfl⟩
          have HY := Lib.hid hy
          have hbw : Below wq.heap.size wq w5 := bt hbr (bt HBD.out hb5)
          have HO5 := Lib.hid (pw_own_below HO.out (bt HBD.out hb5))
          have hsz5 : wr.heap.size ≤ w5.heap.size := (bt HBD.out hb5).size
          rw [hy]
          clear hk5 hb5 hxw hxm1 hxm2 htb1 htb2 hy hto e1 e2
          by_cases hwd : wideB y = true
          · have HV : Hid (lresI fs shift prec xs = ([], 14)) := Lib.hid (by
              unfold lresI
              have h : (lres fs shift xs).any wideB = true := List.any_eq_true.2 ⟨_, getD_mem _ j (by rw [HM.out]; exact hlt), by rw [HAT.out, HY.out]; exact hwd⟩
              rw [HCK.out, HL.out, HK.out, h]; simp)
            unfold wideB at hwd
            simp only [Bool.or_eq_true, decide_eq_true_eq] at hwd
            go_wp2
            all_goals first
              | (go_ret2; exact ⟨_, by rw [HV.out]; rfl, by rw [HV.out]; exact own_nil _ _ _ _, bt hb2 hbw⟩)
              | (exfalso; omega)
          · have hwf : wideB y = false := by simpa using hwd
            have HWF := Lib.hid hwf
            unfold wideB at hwf
            simp only [Bool.or_eq_false_iff, decide_eq_false_iff_not] at hwf
            obtain ⟨hw1, hw2⟩ := hwf
            clear hwd
            have hw1b : decide (y ≤ -2147483648) = false := decide_eq_false hw1
            have hjl : ((lres fs shift xs).take j).length = j := by rw [List.length_take, HM.out]; omega
            have HJL := Lib.hid hjl
            clear hjl
            go_wp2_with (at_builtin; refine print_append_num (w0 := wq) wq.heap.size rfl (.tmp 49) (.tmp 51) 27 3 .i64 8 rfl Try.underlying27 info_int (by decide) u9 ((lres fs shift xs).take j) y rfl rfl (by rw [HJL.out]; exact HO5.out) hbw hbw.size (by rw [HJL.out]; omega) ?_; rintro v1 w6 hown6 hb6 hg6 hat6)
            go_roundw
            case rel =>
              refine Lib.hid ⟨j + 1, by omega, ?_, ?_, ?_, ?_⟩
              · rw [← HQ.out]; go_num
              · have e : (lres fs shift xs).take (j + 1) = (lres fs shift xs).take j ++ [y] := by rw [HSN.out, HY.out]
                have e2 : ((lres fs shift xs).take j ++ [y]).length = j + 1 := by rw [List.length_append, HJL.out]; rfl
                rw [e, ← e2]; exact hown6
              · rw [HSN.out, HY.out, List.any_append, HANY.out]; simp [HWF.out]
              · exact hb6
            case measure => simp [intOf]; omega
        · obtain rfl : j = m := by omega
          have HV : Hid (lresI fs shift prec xs = (lres fs shift xs, 0)) := Lib.hid (by
            unfold lresI
            have h := HANY.out
            rw [List.take_of_length_le (by rw [HM.out]; exact Nat.le_refl _)] at h
            rw [HCK.out, HL.out, HK.out, h]; simp)
          go_wp2
          go_ret2
          refine ⟨_, by rw [HV.out]; rfl, ?_, bt hb2 hbr⟩
          unfold OwnI
          rw [HV.out, HM.out]
          have h := HO.out
          rw [List.take_of_length_le (by rw [HM.out]; exact Nat.le_refl _)] at h
          exact own_weaken h hb2.size
  · have HV : Hid (lresI fs shift prec xs = ([], ck)) := Lib.hid (by unfold lresI; rw [HCK.out, if_pos c1])
    have c1b : (ck != 0) = true := by rw [bne_iff_ne]; exact c1
    clear c1
    go_enter Try.func87, Try.ntmps87
    go_wp2_with (go_at_call 123; refine (lpcCheck_any _ _ _ fs shift prec _ (HF.out.below hb0)).mono ?_; rintro e w1 ⟨rfl, hb⟩; rw [HCK.out])
    go_ret2
    exact ⟨_, by rw [HV.out]; rfl, by rw [HV.out]; exact own_nil _ _ _ _, bt hb0 hb⟩
end Go.Proofs.Ytdpgojcljlfnbaa
