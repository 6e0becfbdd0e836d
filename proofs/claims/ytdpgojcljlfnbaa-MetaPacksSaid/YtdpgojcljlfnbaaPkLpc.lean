/- Contracts of functions that the law reaches: Lpc, Sub, Rest. -/
import Derived.Test.YtdpgojcljlfnbaaPkFixed
import Derived.Deep.RegionHeld3
section
/- Contracts of package lpc: Check, tell, Residual; of the numbers: from -2^40 to 2^40. -/
set_option linter.unusedVariables false
set_option linter.unusedSimpArgs false
set_option maxRecDepth 100000
namespace Go.Proofs.Ytdpgojcljlfnbaa
open Go.RowKit
open Go.Proofs.YtdpgojcljlfnbaaW.PrintWords

theorem lpcCheck1_any (n : Int) (b : Nat) (prec : Int) (w : World) (h : w.cell? ⟨b, 1, none⟩ = some (.int .i64 prec)) :
    Calls Try.prog 150 #[.int .i64 n, .pointer (some ⟨b, 0, none⟩)] w fun e w' => e = .returned (.bool (!inDepth n prec)) ∧ w = w' := by
  go_enter Try.func150, Try.ntmps150
  go_wp2_with (go_at_call 85; refine (In_any _ _ _).mono ?_; rintro e w' ⟨rfl, rfl⟩)
  go_ret
  exact ⟨rfl, rfl⟩

/-- What lpc.Check tells. -/
def lpcBad (shift prec : Int) (fs : List Int) : Bool := decide (fs.length < 1) || decide (32 < fs.length) || decide (prec < 1) || decide (15 < prec) || decide (shift < 0) || decide (15 < shift)
def lpcI (shift prec : Int) (fs : List Int) : Int := if lpcBad shift prec fs then 1 else if fs.any (fun f => !inDepth f prec) then 1 else 0

theorem lpcCheck_any (A : Option Addr) (n c : Nat) (fs : List Int) (shift prec : Int) (w : World) (hr : ReadsInt w .i64 A n fs) :
    Calls Try.prog 123 #[.agg #[.int .i64 shift, .int .i64 prec, .slice A n c]] w fun e w' => e = .returned (.int .i64 (lpcI shift prec fs)) ∧ Below w.heap.size w w' := by
  have HR := Lib.hid hr
  have hl := hr.1
  have hm := hr.2.1
  clear hr
  subst hl
  by_cases hbad : lpcBad shift prec fs = true
  · have HV : Hid (lpcI shift prec fs = 1) := Lib.hid (by unfold lpcI; rw [if_pos hbad])
    simp only [lpcBad, Bool.or_eq_true, decide_eq_true_eq] at hbad
    go_enter Try.func123, Try.ntmps123
    go_wp2_with fail
    all_goals first
      | (go_ret; exact ⟨ret_int HV.out.symm, ba _ _⟩)
      | (exfalso; omega)
  · have HB : Hid (lpcBad shift prec fs = false) := Lib.hid (by simpa using hbad)
    simp only [lpcBad, Bool.or_eq_true, decide_eq_true_eq, not_or] at hbad
    obtain ⟨⟨⟨⟨⟨b1, b2⟩, b3⟩, b4⟩, b5⟩, b6⟩ := hbad
    have b1' : decide (fs.length < 1) = false := decide_eq_false b1
    have b2' : decide (32 < fs.length) = false := decide_eq_false b2
    have b3' : decide (prec < 1) = false := decide_eq_false b3
    have b4' : decide (15 < prec) = false := decide_eq_false b4
    have b5' : decide (shift < 0) = false := decide_eq_false b5
    go_enter Try.func123, Try.ntmps123
    go_wp2_with fail
    have hbox : (w.alloc (Obj.cells #[.int .i64 shift, .int .i64 prec, .slice A fs.length c] 30)).cell? ⟨w.heap.size, 1, none⟩ = some (.int .i64 prec) := by simp [go_sem]
    have HBOX := Lib.hid hbox; clear hbox
    refine (ContainsFunc_any A _ c fs 150 #[] #[.pointer (some ⟨w.heap.size, 0, none⟩)] (fun f => !inDepth f prec) _ (HR.out.below (ba _ _)) (fun _ _ => by kernel_rfl) (fun W hW x _ => (lpcCheck1_any x w.heap.size prec W (pw_cell_below hW HBOX.out)).mono fun e w' ⟨he, hw⟩ => ⟨he, hw ▸ Below.refl _ _⟩)).mono ?_
    rintro e w1 ⟨rfl, hb⟩
    cases hany : fs.any fun f => !inDepth f prec
    · have HV : Hid (lpcI shift prec fs = 0) := Lib.hid (by unfold lpcI; rw [HB.out, hany]; rfl)
      clear hany
      go_wp2
      go_ret
      exact ⟨ret_int HV.out.symm, bt (ba _ _) hb⟩
    · have HV : Hid (lpcI shift prec fs = 1) := Lib.hid (by unfold lpcI; rw [HB.out, hany]; rfl)
      clear hany
      go_wp2
      go_ret
      exact ⟨ret_int HV.out.symm, bt (ba _ _) hb⟩

theorem mul_abs_le (a b B C : Int) (ha : -B ≤ a ∧ a ≤ B) (hb : -C ≤ b ∧ b ≤ C) (hB : 0 ≤ B) (hC : 0 ≤ C) : a * b ≤ B * C := by
  rcases Int.le_total 0 a with h | h
  · exact Int.le_trans (Int.mul_le_mul_of_nonneg_left hb.2 h) (Int.mul_le_mul_of_nonneg_right ha.2 hC)
  · have h1 : a * b ≤ a * (-C) := Int.mul_le_mul_of_nonpos_left h hb.1
    have h2 : (-a) * C ≤ B * C := Int.mul_le_mul_of_nonneg_right (by omega) hC
    rw [Int.mul_neg] at h1; rw [Int.neg_mul] at h2; omega

/-- Factors times numbers, the numbers of the end first. -/
def dotI : List Int → List Int → Int
  | f :: fs, x :: rs => f * x + dotI fs rs
  | _, _ => 0
def tellI (fs : List Int) (shift : Int) (xs : List Int) : Int := dotI fs xs.reverse / p2 shift.toNat
theorem dotI_snoc (fs rs : List Int) (f x : Int) (h : fs.length < rs.length) (hx : rs.getD fs.length 0 = x) : dotI (fs ++ [f]) rs = dotI fs rs + f * x := by
  induction fs generalizing rs with
  | nil =>
    cases rs with
    | nil => simp at h
    | cons r rs => simp at hx; simp [dotI, hx]
  | cons g fs ih =>
    cases rs with
    | nil => simp at h
    | cons r rs =>
      simp only [List.cons_append, dotI]
      rw [ih rs (by simpa using h) (by simpa using hx)]
      omega
theorem dotI_bd (fs rs : List Int) (B C : Int) (hC : 0 ≤ C) (hB : 0 ≤ B) (hf : ∀ f ∈ fs, -B ≤ f ∧ f ≤ B) (hr : ∀ x ∈ rs, -C ≤ x ∧ x ≤ C) : -(B * C * fs.length) ≤ dotI fs rs ∧ dotI fs rs ≤ B * C * fs.length := by
  induction fs generalizing rs with
  | nil => simp [dotI]
  | cons f fs ih =>
    cases rs with
    | nil => have := Int.mul_nonneg (Int.mul_nonneg hB hC) (show (0 : Int) ≤ ((f :: fs).length : Int) by omega); simp only [dotI]; omega
    | cons x rs =>
      have h1 := hf f (by simp)
      have h2 := hr x (by simp)
      have h3 := ih rs (fun g hg => hf g (by simp [hg])) (fun y hy => hr y (by simp [hy]))
      have h4 : f * x ≤ B * C := mul_abs_le f x B C h1 h2 hB hC
      have h5 : -(f * x) ≤ B * C := by
        have := mul_abs_le (-f) x B C (by omega) h2 hB hC
        rwa [Int.neg_mul] at this
      simp only [dotI, List.length_cons]
      rw [Int.natCast_add, Int.mul_add]
      omega
theorem rev_getD (xs : List Int) (i : Nat) (h : i < xs.length) : xs.reverse.getD i 0 = xs.getD (xs.length - 1 - i) 0 := by
  simp only [List.getD_eq_getElem?_getD]
  rw [List.getElem?_reverse h]

theorem tell_any (A : Option Addr) (n c : Nat) (xs : List Int) (FA : Option Addr) (fc : Nat) (fs : List Int) (shift prec : Int) (w : World) (hr : ReadsInt w .i64 A n xs) (hf : ReadsInt w .i64 FA fs.length fs)
    (hn : fs.length ≤ n) (h32 : fs.length ≤ 32) (hs : 0 ≤ shift) (hs2 : shift ≤ 15) (hx : ∀ x ∈ xs, -1099511627776 ≤ x ∧ x ≤ 1099511627776) (hF : ∀ f ∈ fs, -16384 ≤ f ∧ f ≤ 16384) :
    Calls Try.prog 124 #[.agg #[.int .i64 shift, .int .i64 prec, .slice FA fs.length fc], .slice A n c] w fun e w' => e = .returned (.int .i64 (tellI fs shift xs)) ∧ Below w.heap.size w w' := by
  have HR := Lib.hid hr
  have HF := Lib.hid hf
  have HX := Lib.hid hx
  have HFB := Lib.hid hF
  have HL := Lib.hid hr.1
  have hnm := hr.2.1
  clear hr hf hx hF
  obtain ⟨k, hk⟩ : ∃ k, fs.length = k := ⟨_, rfl⟩
  rw [hk] at hn h32
  have HK := Lib.hid hk
  have hsh : 0 ≤ shift ∧ shift ≤ 63 := by omega
  go_enter Try.func124, Try.ntmps124
  go_wp2
  rw [hk]
  clear hk
  go_loop [5, 11] (fun s i => ∃ j : Nat, j ≤ k ∧ i = .int .i64 j ∧ s = .int .i64 (dotI (fs.take j) xs.reverse)) (fun _ i => k - (intOf i).toNat)
  case atStart => exact ⟨0, Nat.zero_le _, rfl, rfl⟩
  case round =>
    obtain ⟨j, hj, rfl, rfl⟩ := hrel
    by_cases hlt : j < k
    · have hb0 := ba w (Obj.cells #[.int .i64 shift, .int .i64 prec, .slice FA k fc] 183)
      obtain ⟨fa, rfl, hfc⟩ := rd_nat (HF.out.below hb0) (show j < fs.length by rw [HK.out]; exact hlt)
      obtain ⟨xa, rfl, hxc⟩ := rd_nat (HR.out.below hb0) (show n - 1 - j < n by omega)
      clear hb0
      have hjf : j < fs.length := by rw [HK.out]; exact hlt
      have hjx : n - 1 - j < xs.length := by rw [HL.out]; omega
      have hf1 := HFB.out _ (getD_mem fs j hjf)
      have hx1 := HX.out _ (getD_mem xs (n - 1 - j) hjx)
      have hts := take_snoc_getD fs j hjf
      have hrg := rev_getD xs j (by rw [HL.out]; omega)
      rw [HL.out] at hrg
      obtain ⟨f, hf⟩ : ∃ f, fs.getD j 0 = f := ⟨_, rfl⟩
      obtain ⟨x, hx⟩ : ∃ x, xs.getD (n - 1 - j) 0 = x := ⟨_, rfl⟩
      rw [hf] at hfc hf1 hts
      rw [hx] at hxc hx1 hrg
      have hjl : (fs.take j).length = j := by rw [List.length_take]; omega
      have hsn := dotI_snoc (fs.take j) xs.reverse f x (by rw [hjl, List.length_reverse, HL.out]; omega) (by rw [hjl]; exact hrg)
      rw [← hts] at hsn
      have hb1 := dotI_bd (fs.take j) xs.reverse 16384 1099511627776 (by omega) (by omega) (fun g hg => HFB.out g (List.mem_of_mem_take hg)) (fun y hy => HX.out y (List.mem_reverse.1 hy))
      rw [hjl] at hb1
      have hm1 := mul_abs_le f x 16384 1099511627776 hf1 hx1 (by omega) (by omega)
      have hm2 := mul_abs_le (-f) x 16384 1099511627776 (by omega) hx1 (by omega) (by omega)
      rw [Int.neg_mul] at hm2
      have HW : Hid (wrap64 (dotI (fs.take j) xs.reverse + wrap64 (f * x)) = dotI (fs.take (j + 1)) xs.reverse) := Lib.hid (by
        rw [hsn]
        generalize f * x = fx at *
        have e : wrap64 fx = fx := by unfold wrap64; omega
        rw [e]; unfold wrap64; omega)
      clear hsn hb1 hm1 hm2 hts hrg hf hx hf1 hx1 hjl hjf hjx
      go_wp2
      go_round
      case rel => exact ⟨j + 1, by omega, by go_num, by rw [HW.out]⟩
      case measure => simp [intOf]; omega
    · obtain rfl : j = k := by omega
      go_wp2
      go_ret
      exact ⟨ret_int (by unfold tellI; rw [List.take_of_length_le (by rw [HK.out]; exact Nat.le_refl _), p2_eq]), ba _ _⟩

theorem tellI_bd (fs : List Int) (shift : Int) (xs : List Int) (h32 : fs.length ≤ 32) (hx : ∀ x ∈ xs, -1099511627776 ≤ x ∧ x ≤ 1099511627776) (hF : ∀ f ∈ fs, -16384 ≤ f ∧ f ≤ 16384) : -576460752303423488 ≤ tellI fs shift xs ∧ tellI fs shift xs ≤ 576460752303423488 := by
  have h := dotI_bd fs xs.reverse 16384 1099511627776 (by omega) (by omega) hF (fun y hy => hx y (List.mem_reverse.1 hy))
  have hp := p2_pos shift.toNat
  unfold tellI
  generalize dotI fs xs.reverse = s at h ⊢
  constructor
  · exact Int.le_ediv_of_mul_le hp (by
      have : -576460752303423488 * p2 shift.toNat ≤ -576460752303423488 * 1 := Int.mul_le_mul_of_nonpos_left (by omega) (by omega)
      omega)
  · exact Int.le_trans (b := max s 0) (by
      rcases Int.le_total 0 s with h0 | h0
      · have := Int.ediv_le_self (p2 shift.toNat) h0; omega
      · have : s / p2 shift.toNat ≤ 0 := Int.ediv_le_of_le_mul hp (by omega)
        omega) (by omega)

/-- What is left at a place. -/
def resAt (fs : List Int) (shift : Int) (xs : List Int) (i : Nat) : Int := xs.getD i 0 - tellI fs shift (xs.take i)
def lres (fs : List Int) (shift : Int) (xs : List Int) : List Int := (List.range (xs.length - fs.length)).map fun d => resAt fs shift xs (fs.length + d)
/-- What lpc.Residual tells. -/
def lresI (fs : List Int) (shift prec : Int) (xs : List Int) : List Int × Int :=
  if lpcI shift prec fs ≠ 0 then ([], lpcI shift prec fs) else if xs.length < fs.length then ([], 2) else if (lres fs shift xs).any wideB then ([], 14) else (lres fs shift xs, 0)

theorem lpcI_zero {shift prec : Int} {fs : List Int} (h : lpcI shift prec fs = 0) : 1 ≤ fs.length ∧ fs.length ≤ 32 ∧ 0 ≤ shift ∧ shift ≤ 15 ∧ 1 ≤ prec ∧ prec ≤ 15 ∧ (∀ f ∈ fs, -16384 ≤ f ∧ f ≤ 16384) := by
  unfold lpcI at h
  split at h
  · omega
  · rename_i hb
    split at h
    · omega
    · rename_i ha
      simp only [lpcBad, Bool.or_eq_true, decide_eq_true_eq, not_or] at hb
      obtain ⟨⟨⟨⟨⟨b1, b2⟩, b3⟩, b4⟩, b5⟩, b6⟩ := hb
      refine ⟨by omega, by omega, by omega, by omega, by omega, by omega, fun f hf => ?_⟩
      simp only [List.any_eq_true, not_exists, not_and] at ha
      have h1 : inDepth f prec = true := by simpa using ha f hf
      unfold inDepth at h1
      simp only [Bool.and_eq_true, decide_eq_true_eq] at h1
      have h2 : p2 (prec - 1).toNat ≤ 16384 := by
        have h3 : 2 ^ (prec - 1).toNat ≤ 2 ^ 14 := Nat.pow_le_pow_right (by decide) (by omega)
        unfold p2; omega
      omega

set_option maxHeartbeats 2000000 in
theorem lpcResidual_any (A : Option Addr) (n c : Nat) (xs : List Int) (FA : Option Addr) (fc : Nat) (fs : List Int) (shift prec : Int) (w : World) (hr : ReadsInt w .i64 A n xs) (hf : ReadsInt w .i64 FA fs.length fs)
    (hnc : n ≤ c) (hn : n ≤ 1000000) (hx : ∀ x ∈ xs, -1099511627776 ≤ x ∧ x ≤ 1099511627776) :
    Calls Try.prog 87 #[.slice A n c, .agg #[.int .i64 shift, .int .i64 prec, .slice FA fs.length fc]] w fun e w' => ∃ v, e = .returned (.tuple #[v, .int .i64 (lresI fs shift prec xs).2]) ∧ OwnI w' w.heap.size 3 .i64 v (lresI fs shift prec xs).1 ∧ Below w.heap.size w w' := by
  have HR := Lib.hid hr
  have HF := Lib.hid hf
  have HX := Lib.hid hx
  have HL := Lib.hid hr.1
  clear hr hf hx
  obtain ⟨ck, hck⟩ : ∃ ck, lpcI shift prec fs = ck := ⟨_, rfl⟩
  have HCK := Lib.hid hck
  clear hck
  obtain ⟨W0, hW0⟩ : ∃ W0, w.alloc (Obj.cells #[.int .i64 shift, .int .i64 prec, .slice FA fs.length fc] 30) = W0 := ⟨_, rfl⟩
  have h00 : W0.cell? ⟨w.heap.size, 0, none⟩ = some (.int .i64 shift) := by rw [← hW0]; simp [go_sem]
  have h01 : W0.cell? ⟨w.heap.size, 1, none⟩ = some (.int .i64 prec) := by rw [← hW0]; simp [go_sem]
  have h02 : W0.cell? ⟨w.heap.size, 2, none⟩ = some (.slice FA fs.length fc) := by rw [← hW0]; simp [go_sem]
  have hb0 : Below w.heap.size w W0 := by rw [← hW0]; exact ba _ _
  by_cases c1 : ck = 0
  · subst c1
    obtain ⟨z1, z2, z3, z4, z5, z6, z7⟩ := lpcI_zero HCK.out
    have Z7 := Lib.hid z7
    clear z7
    by_cases c2 : n < fs.length
    · have HV : Hid (lresI fs shift prec xs = ([], 2)) := Lib.hid (by unfold lresI; rw [HCK.out, HL.out]; simp [c2])
      go_enter Try.func87, Try.ntmps87
      go_wp2_with (go_at_call 123; refine (lpcCheck_any _ _ _ fs shift prec _ (HF.out.below hb0)).mono ?_; rintro e w1 ⟨rfl, hb⟩; rw [HCK.out]; obtain ⟨hc, hf⟩ := bcell hb)
      have w00 : w1.cell? ⟨w.heap.size, 0, none⟩ = some (.int .i64 shift) := pw_cell_below hb h00
      have w01 : w1.cell? ⟨w.heap.size, 1, none⟩ = some (.int .i64 prec) := pw_cell_below hb h01
      have w02 : w1.cell? ⟨w.heap.size, 2, none⟩ = some (.slice FA fs.length fc) := pw_cell_below hb h02
      go_quiet (fail)
      go_wp2
      go_ret2
      exact ⟨_, by rw [HV.out]; rfl, by rw [HV.out]; exact own_nil _ _ _ _, bt hb0 (bt hb (bd _ _))⟩
    · obtain ⟨k, hk⟩ : ∃ k, fs.length = k := ⟨_, rfl⟩
      have HK := Lib.hid hk
      rw [hk] at h02 z1 z2 c2 hW0
      obtain ⟨m, rfl⟩ : ∃ m, n = k + m := ⟨n - k, by omega⟩
      have HM : Hid ((lres fs shift xs).length = m) := Lib.hid (by unfold lres; rw [List.length_map, List.length_range, HL.out, HK.out]; omega)
      rw [hk]
      clear hk c2
      have c2 : ¬ k + m < k := by omega
      go_enter Try.func87, Try.ntmps87
      go_wp2_with fail
      have HCHK := Lib.hid (lpcCheck_any FA fs.length fc fs shift prec W0 (HF.out.below hb0))
      have hchk := HCHK.out
      rw [HK.out] at hchk
      have HCHK2 := Lib.hid hchk
      clear hchk HCHK
      refine HCHK2.out.mono ?_
      rintro e w1 ⟨rfl, hb⟩
      rw [HCK.out]
      have w00 : w1.cell? ⟨w.heap.size, 0, none⟩ = some (.int .i64 shift) := pw_cell_below hb h00
      have w01 : w1.cell? ⟨w.heap.size, 1, none⟩ = some (.int .i64 prec) := pw_cell_below hb h01
      have w02 : w1.cell? ⟨w.heap.size, 2, none⟩ = some (.slice FA k fc) := pw_cell_below hb h02
      go_wp2
      go_quiet (fail)
      have hbq : Below w1.heap.size w1 (w1.drewN nq) := bd _ _
      have HWQ : Hid (∃ W, W = w1.drewN nq) := Lib.hid ⟨_, rfl⟩
      go_wp2
      generalize w1.drewN nq = wq at *
      clear w00 w01 w02 h00 h01 h02 hW0
      have hb2 : Below w.heap.size w wq := bt hb0 (bt hb hbq)
      have HRq := Lib.hid (HR.out.below hb2)
      have HFq := Lib.hid (HF.out.below hb2)
      clear hb hbq hb0 HWQ
      go_loopw [9, 10] (fun v i wr => Hid (∃ j : Nat, j ≤ m ∧ i = .int .i64 ((k + j : Nat) : Int) ∧ wr.ownsRow wq.heap.size 3 1 v j (nums .i64 ((lres fs shift xs).take j)) ∧ ((lres fs shift xs).take j).any wideB = false ∧ Below wq.heap.size wq wr)) (fun _ i _ => k + m - (intOf i).toNat)
      case atStart => exact Lib.hid ⟨0, Nat.zero_le _, rfl, own_nil _ _ _ _, rfl, Below.refl _ _⟩
      case round =>
        obtain ⟨j, hj, rfl, hown, hany, hbr⟩ := hrel.out
        clear hrel
        have HO := Lib.hid hown; have HANY := Lib.hid hany
        clear hown hany
        by_cases hlt : j < m
        · obtain ⟨q, hq⟩ : ∃ q, k + j = q := ⟨_, rfl⟩
          have hqn : q < k + m := by omega
          have hkq : k ≤ q := by omega
          obtain ⟨ax, rfl, hxc⟩ := rd_nat (HRq.out.below hbr) hqn
          have hxm := HX.out _ (getD_mem xs q (by rw [HL.out]; exact hqn))
          obtain ⟨x, hx⟩ : ∃ x, xs.getD q 0 = x := ⟨_, rfl⟩
          rw [hx] at hxc hxm
          obtain ⟨tl, htl⟩ : ∃ t, tellI fs shift (xs.take q) = t := ⟨_, rfl⟩
          have hat : (lres fs shift xs).getD j 0 = x - tl := by
            have e : (lres fs shift xs)[j]? = some (resAt fs shift xs (fs.length + j)) := by
              unfold lres
              rw [List.getElem?_map, List.getElem?_range (by rw [HL.out, HK.out]; omega)]; rfl
            rw [List.getD_eq_getElem?_getD, e, Option.getD_some, resAt, HK.out, hq, hx, htl]
          have hsn := take_snoc_getD (lres fs shift xs) j (by rw [HM.out]; exact hlt)
          rw [hat] at hsn
          have hRT := (HRq.out.below hbr).take_ q (by omega)
          have hTE : ∀ W, Below wr.heap.size wr W → Calls Try.prog 124 #[.agg #[.int .i64 shift, .int .i64 prec, .slice FA k fc], .slice (some ax) q c] W fun e w' => e = .returned (.int .i64 tl) ∧ Below W.heap.size W w' := by
            intro W hW
            have h := tell_any (some ax) q c (xs.take q) FA fc fs shift prec W (hRT.below hW) ((HFq.out.below hbr).below hW) (by rw [HK.out]; exact hkq) (by rw [HK.out]; exact z2) z3 z4 (fun y hy => HX.out y (List.mem_of_mem_take hy)) Z7.out
            rwa [HK.out, htl] at h
          have htb : -576460752303423488 ≤ tl ∧ tl ≤ 576460752303423488 := by
            rw [← htl]
            exact tellI_bd fs shift (xs.take q) (by rw [HK.out]; exact z2) (fun y hy => HX.out y (List.mem_of_mem_take hy)) Z7.out
          have HTE := Lib.hid hTE; have HAT := Lib.hid hat; have HSN := Lib.hid hsn; have HQ := Lib.hid hq
          have hto := run_cut_to Try.underlying27 info_int (some ax) (k + m) c q (by omega) hnc
          have hxw : IntKind.i64.wrap (x - tl) = x - tl := IntWalk.i64_in _ (by omega)
          have e1 : (q : Int) < ((k : Int) + m) := by omega
          have e2 : (0 : Int) ≤ (q : Int) := by omega
          obtain ⟨hxm1, hxm2⟩ := hxm
          obtain ⟨htb1, htb2⟩ := htb
          have hxd : wr.drew.cell? (ax.add q) = some (.int .i64 x) := hxc
          have HXC := Lib.hid hxd
          have HBD := Lib.hid (bd1 wr)
          clear hxc hxd
          clear hTE hat hsn hx htl hRT
          rw [hq]
          clear hq
          go_wp2
          go_region_held3 (fun w' => w'.cell? (ax.add q) = some (.int .i64 x)) (first | (with_reducible exact HXC.out) | (with_reducible assumption)) ((((with_reducible refine (HTE.out wr.drew HBD.out).mono ?_); (rintro e w5 ⟨rfl, hb5⟩); have hk5 : w5.cell? (ax.add q) = some (.int .i64 x) := pw_cell_below hb5 HXC.out)))
          obtain ⟨y, hy⟩ : ∃ y, x - tl = y := ⟨_, rfl⟩
          have HY := Lib.hid hy
          have hbw : Below wq.heap.size wq w5 := bt hbr (bt HBD.out hb5)
          have HO5 := Lib.hid (pw_own_below HO.out (bt HBD.out hb5))
          have hsz5 : wr.heap.size ≤ w5.heap.size := (bt HBD.out hb5).size
          rw [hy]
          clear hk5 hb5 hxw hxm1 hxm2 htb1 htb2 hy hto e1 e2
          by_cases hwd : wideB y = true
          · have HV : Hid (lresI fs shift prec xs = ([], 14)) := Lib.hid (by
              unfold lresI
              have h : (lres fs shift xs).any wideB = true := List.any_eq_true.2 ⟨_, getD_mem _ j (by rw [HM.out]; exact hlt), by rw [HAT.out, HY.out]; exact hwd⟩
              rw [HCK.out, HL.out, HK.out, h]; simp)
            unfold wideB at hwd
            simp only [Bool.or_eq_true, decide_eq_true_eq] at hwd
            go_wp2
            all_goals first
              | (go_ret2; exact ⟨_, by rw [HV.out]; rfl, by rw [HV.out]; exact own_nil _ _ _ _, bt hb2 hbw⟩)
              | (exfalso; omega)
          · have hwf : wideB y = false := by simpa using hwd
            have HWF := Lib.hid hwf
            unfold wideB at hwf
            simp only [Bool.or_eq_false_iff, decide_eq_false_iff_not] at hwf
            obtain ⟨hw1, hw2⟩ := hwf
            clear hwd
            have hw1b : decide (y ≤ -2147483648) = false := decide_eq_false hw1
            have hjl : ((lres fs shift xs).take j).length = j := by rw [List.length_take, HM.out]; omega
            have HJL := Lib.hid hjl
            clear hjl
            go_wp2_with (at_builtin; refine print_append_num (w0 := wq) wq.heap.size rfl (.tmp 49) (.tmp 51) 27 3 .i64 8 rfl Try.underlying27 info_int (by decide) u9 ((lres fs shift xs).take j) y rfl rfl (by rw [HJL.out]; exact HO5.out) hbw hbw.size (by rw [HJL.out]; omega) ?_; rintro v1 w6 hown6 hb6 hg6 hat6)
            go_roundw
            case rel =>
              refine Lib.hid ⟨j + 1, by omega, ?_, ?_, ?_, ?_⟩
              · rw [← HQ.out]; go_num
              · have e : (lres fs shift xs).take (j + 1) = (lres fs shift xs).take j ++ [y] := by rw [HSN.out, HY.out]
                have e2 : ((lres fs shift xs).take j ++ [y]).length = j + 1 := by rw [List.length_append, HJL.out]; rfl
                rw [e, ← e2]; exact hown6
              · rw [HSN.out, HY.out, List.any_append, HANY.out]; simp [HWF.out]
              · exact hb6
            case measure => simp [intOf]; omega
        · obtain rfl : j = m := by omega
          have HV : Hid (lresI fs shift prec xs = (lres fs shift xs, 0)) := Lib.hid (by
            unfold lresI
            have h := HANY.out
            rw [List.take_of_length_le (by rw [HM.out]; exact Nat.le_refl _)] at h
            rw [HCK.out, HL.out, HK.out, h]; simp)
          go_wp2
          go_ret2
          refine ⟨_, by rw [HV.out]; rfl, ?_, bt hb2 hbr⟩
          unfold OwnI
          rw [HV.out, HM.out]
          have h := HO.out
          rw [List.take_of_length_le (by rw [HM.out]; exact Nat.le_refl _)] at h
          exact own_weaken h hb2.size
  · have HV : Hid (lresI fs shift prec xs = ([], ck)) := Lib.hid (by unfold lresI; rw [HCK.out, if_pos c1])
    have c1b : (ck != 0) = true := by rw [bne_iff_ne]; exact c1
    clear c1
    go_enter Try.func87, Try.ntmps87
    go_wp2_with (go_at_call 123; refine (lpcCheck_any _ _ _ fs shift prec _ (HF.out.below hb0)).mono ?_; rintro e w1 ⟨rfl, hb⟩; rw [HCK.out])
    go_ret2
    exact ⟨_, by rw [HV.out]; rfl, by rw [HV.out]; exact own_nil _ _ _ _, bt hb0 hb⟩
end Go.Proofs.Ytdpgojcljlfnbaa
end
section
/- Contracts of package subframe: order, odd, Rest; lists shorter than a million, numbers from -2^40 to 2^40. -/
set_option linter.unusedVariables false
set_option linter.unusedSimpArgs false
set_option maxRecDepth 100000
namespace Go.Proofs.Ytdpgojcljlfnbaa
open Go.RowKit
open Go.Proofs.YtdpgojcljlfnbaaW.PrintWords

theorem in_bd {n d : Int} (h : inDepth n d = true) : -2305843009213693952 ≤ n ∧ n < 2305843009213693952 := by
  unfold inDepth at h
  simp only [Bool.and_eq_true, decide_eq_true_eq] at h
  have h2 : p2 (d - 1).toNat ≤ 2305843009213693952 := by
    have h3 : 2 ^ (d - 1).toNat ≤ 2 ^ 61 := Nat.pow_le_pow_right (by decide) (by omega)
    unfold p2; omega
  omega
theorem shl_ok (x : Int) (k : Nat) (hk : k ≤ 60) (h1 : -2305843009213693952 ≤ x) (h2 : x < 2305843009213693952) : wrap64 (x / 2 ^ k * 2 ^ k) = x / p2 k * p2 k := by
  rw [p2_eq]
  have hp := p2_pos k
  have h3 : p2 k ≤ 1152921504606846976 := by
    have h3 : 2 ^ k ≤ 2 ^ 60 := Nat.pow_le_pow_right (by decide) hk
    unfold p2; omega
  have h4 := Int.mul_ediv_add_emod x (p2 k)
  have h5 := Int.emod_nonneg x (b := p2 k) (by omega)
  have h6 := Int.emod_lt_of_pos x hp
  rw [Int.mul_comm] at h4
  unfold wrap64
  omega
theorem In_same (n d : Int) (w : World) : Calls Try.prog 85 #[.int .i64 n, .int .i64 d] w fun e w' => e = .returned (.bool (inDepth n d)) ∧ w' = w := (In_any n d w).mono fun _ _ ⟨h, k⟩ => ⟨h, k.symm⟩

/-- A subframe: what its fields hold; where its factors and its parts lie. -/
structure SubV where
  kind : Int
  wasted : Int
  order : Int
  shift : Int
  prec : Int
  FA : Option Addr
  fs : List Int
  fc : Nat
  wide : Bool
  po : Int
  PA : Option Addr
  ps : List PartV
  pc : Nat
@[reducible] def subCells (s : SubV) : Array Value := #[.int .i64 s.kind, .int .i64 s.wasted, .int .i64 s.order, .int .i64 s.shift, .int .i64 s.prec, .slice s.FA s.fs.length s.fc, .bool s.wide, .int .i64 s.po, .slice s.PA s.ps.length s.pc]
@[reducible] def subVal (s : SubV) : Value := .agg (subCells s)
/-- The lists of a subframe are read. -/
structure SubR (w : World) (s : SubV) : Prop where
  f : ReadsInt w .i64 s.FA s.fs.length s.fs
  fc : s.fs.length ≤ s.fc
  p : ReadsC w s.PA (partCells s.ps)
  pl : s.ps.length ≤ 1000000000
theorem SubR.below {w w1 : World} {s : SubV} (h : SubR w s) (hb : Below w.heap.size w w1) : SubR w1 s := ⟨h.f.below hb, h.fc, h.p.below hb, h.pl⟩

def orderI (s : SubV) : Int := if s.kind = 2 then s.order else if s.kind = 3 then s.fs.length else 0
theorem order_any (s : SubV) (w : World) (hl : s.fs.length ≤ 9223372036854775807) : Calls Try.prog 53 #[subVal s] w fun e w' => e = .returned (.int .i64 (orderI s)) ∧ Below w.heap.size w w' := by
  by_cases h2 : s.kind = 2
  · have HV : Hid (orderI s = s.order) := Lib.hid (by unfold orderI; rw [if_pos h2])
    go_enter Try.func53, Try.ntmps53
    go_wp2
    go_ret
    exact ⟨ret_int HV.out.symm, ba _ _⟩
  · by_cases h3 : s.kind = 3
    · have HV : Hid (orderI s = s.fs.length) := Lib.hid (by unfold orderI; rw [if_neg h2, if_pos h3])
      go_enter Try.func53, Try.ntmps53
      go_wp2
      go_ret
      exact ⟨ret_int HV.out.symm, ba _ _⟩
    · have HV : Hid (orderI s = 0) := Lib.hid (by unfold orderI; rw [if_neg h2, if_neg h3])
      have h2b : (s.kind == 2) = false := by rw [beq_eq_false_iff_ne]; exact h2
      have h3b : (s.kind == 3) = false := by rw [beq_eq_false_iff_ne]; exact h3
      go_enter Try.func53, Try.ntmps53
      go_wp2
      go_ret
      exact ⟨ret_int HV.out.symm, ba _ _⟩

def oddBad (xs : List Int) (s : SubV) (depth : Int) : Bool := decide (xs.length < 1) || decide (65535 < xs.length) || decide (depth < 4) || decide (33 < depth) || decide (s.kind < 0) || decide (3 < s.kind) || decide (s.wasted < 0) || decide (depth ≤ s.wasted)
def numBad (s : SubV) (depth x : Int) : Bool := !inDepth x depth || decide (x / p2 s.wasted.toNat * p2 s.wasted.toNat ≠ x)
def oddI (xs : List Int) (s : SubV) (depth : Int) : Int := if oddBad xs s depth then 1 else if xs.any (numBad s depth) then 6 else 0

set_option maxHeartbeats 1000000 in
theorem odd_any (A : Option Addr) (n c : Nat) (xs : List Int) (s : SubV) (depth : Int) (w : World) (hr : ReadsInt w .i64 A n xs) :
    Calls Try.prog 49 #[.slice A n c, subVal s, .int .i64 depth] w fun e w' => e = .returned (.int .i64 (oddI xs s depth)) ∧ Below w.heap.size w w' := by
  have HR := Lib.hid hr
  have hl := hr.1
  have hm := hr.2.1
  clear hr
  subst hl
  by_cases hbad : oddBad xs s depth = true
  · have HV : Hid (oddI xs s depth = 1) := Lib.hid (by unfold oddI; rw [if_pos hbad])
    simp only [oddBad, Bool.or_eq_true, decide_eq_true_eq] at hbad
    go_enter Try.func49, Try.ntmps49
    go_wp2
    all_goals first
      | (go_ret; exact ⟨ret_int HV.out.symm, ba _ _⟩)
      | (exfalso; omega)
  · have HB : Hid (oddBad xs s depth = false) := Lib.hid (by simpa using hbad)
    simp only [oddBad, Bool.or_eq_true, decide_eq_true_eq, not_or] at hbad
    obtain ⟨⟨⟨⟨⟨⟨⟨b1, b2⟩, b3⟩, b4⟩, b5⟩, b6⟩, b7⟩, b8⟩ := hbad
    have b1' : decide (xs.length < 1) = false := decide_eq_false b1
    have b2' : decide (65535 < xs.length) = false := decide_eq_false b2
    have b3' : decide (depth < 4) = false := decide_eq_false b3
    have b4' : decide (33 < depth) = false := decide_eq_false b4
    have b5' : decide (s.kind < 0) = false := decide_eq_false b5
    have b6' : decide (3 < s.kind) = false := decide_eq_false b6
    have b7' : decide (s.wasted < 0) = false := decide_eq_false b7
    have hw0 : 0 ≤ s.wasted := by omega
    have hw1 : s.wasted ≤ 63 := by omega
    obtain ⟨W0, hW0⟩ : ∃ W0, w.alloc (Obj.cells (subCells s) 32) = W0 := ⟨_, rfl⟩
    have h01 : W0.cell? ⟨w.heap.size, 1, none⟩ = some (.int .i64 s.wasted) := by rw [← hW0]; simp [go_sem]
    have h00 : W0.cell? ⟨w.heap.size, 0, none⟩ = some (.int .i64 s.kind) := by rw [← hW0]; simp [go_sem]
    have hb0 : Below w.heap.size w W0 := by rw [← hW0]; exact ba _ _
    go_enter Try.func49, Try.ntmps49
    go_wp2
    go_loopw [50] (fun i wr => Hid (∃ (j : Nat), j ≤ xs.length ∧ i = .int .i64 j ∧ (xs.take j).any (numBad s depth) = false ∧ Below W0.heap.size W0 wr)) (fun i _ => xs.length - (intOf i).toNat)
    case atStart => exact Lib.hid ⟨0, Nat.zero_le _, rfl, rfl, Below.refl _ _⟩
    case round =>
      obtain ⟨j, hj, rfl, hany, hbr⟩ := hrel.out
      clear hrel
      have w01 : wr.cell? ⟨w.heap.size, 1, none⟩ = some (.int .i64 s.wasted) := pw_cell_below hbr h01
      have HANY := Lib.hid hany
      clear hany
      by_cases hlt : j < xs.length
      · obtain ⟨ad, rfl, hc⟩ := rd_nat ((HR.out.below hb0).below hbr) hlt
        have hts := any_take_succ (numBad s depth) xs j hlt
        have hmem := getD_mem xs j hlt
        obtain ⟨x, hx⟩ : ∃ x, xs.getD j 0 = x := ⟨_, rfl⟩
        rw [hx] at hc hts hmem
        have HTS := Lib.hid hts; have HMEM := Lib.hid hmem
        clear hts hmem hx
        cases hin : inDepth x depth
        · have HNB : Hid (numBad s depth x = true) := Lib.hid (by unfold numBad; rw [hin]; rfl)
          have HV : Hid (oddI xs s depth = 6) := Lib.hid (by
            unfold oddI
            rw [HB.out, List.any_eq_true.2 ⟨x, HMEM.out, HNB.out⟩]; rfl)
          have hIn : ∀ W : World, Calls Try.prog 85 #[.int .i64 x, .int .i64 depth] W fun e w' => e = .returned (.bool false) ∧ w' = W := fun W => by have := In_same x depth W; rwa [hin] at this
          have HIN := Lib.hid hIn
          clear hIn hin
          go_wp2
          go_quiet ((go_at_call 85; exact Calls.quiet_of_same (HIN.out _)))
          go_wp2
          go_ret
          exact ⟨ret_int HV.out.symm, bt hb0 (bt hbr (bd _ _))⟩
        · have hIn : ∀ W : World, Calls Try.prog 85 #[.int .i64 x, .int .i64 depth] W fun e w' => e = .returned (.bool true) ∧ w' = W := fun W => by have := In_same x depth W; rwa [hin] at this
          have HIN := Lib.hid hIn
          have hbd := in_bd hin
          have HIN2 := Lib.hid hin
          clear hIn hin
          go_wp2
          go_quiet ((go_at_call 85; exact Calls.quiet_of_same (HIN.out _)))
          go_wp2
          · have hne : (wrap64 (x / 2 ^ s.wasted.toNat * 2 ^ s.wasted.toNat) != x) = true := by assumption
            rw [shl_ok x s.wasted.toNat (by omega) hbd.1 hbd.2, bne_iff_ne] at hne
            have HNB : Hid (numBad s depth x = true) := Lib.hid (by unfold numBad; rw [HIN2.out, decide_eq_true hne]; rfl)
            have HV : Hid (oddI xs s depth = 6) := Lib.hid (by
              unfold oddI
              rw [HB.out, List.any_eq_true.2 ⟨x, HMEM.out, HNB.out⟩]; rfl)
            go_ret
            exact ⟨ret_int HV.out.symm, bt hb0 (bt hbr (bd _ _))⟩
          · have hne : (wrap64 (x / 2 ^ s.wasted.toNat * 2 ^ s.wasted.toNat) != x) = false := by assumption
            rw [shl_ok x s.wasted.toNat (by omega) hbd.1 hbd.2, bne_eq_false_iff_eq] at hne
            have hnb : numBad s depth x = false := by unfold numBad; rw [HIN2.out, decide_eq_false (by simpa using hne)]; rfl
            go_roundw
            case rel => exact Lib.hid ⟨j + 1, by omega, by go_num, by rw [HTS.out, HANY.out, hnb]; rfl, bt hbr (bd _ _)⟩
            case measure => simp [intOf]; omega
      · obtain rfl : j = xs.length := by omega
        have HV : Hid (oddI xs s depth = 0) := Lib.hid (by
          unfold oddI
          have h := HANY.out
          rw [List.take_length] at h
          rw [HB.out, h]; rfl)
        go_wp2
        go_ret
        exact ⟨ret_int HV.out.symm, bt hb0 hbr⟩

end Go.Proofs.Ytdpgojcljlfnbaa
end
section
/- The contract of subframe.Rest; lists shorter than a million, numbers from -2^40 to 2^40. -/
set_option linter.unusedVariables false
set_option linter.unusedSimpArgs false
set_option maxRecDepth 100000
namespace Go.Proofs.Ytdpgojcljlfnbaa
open Go.RowKit
open Go.Proofs.YtdpgojcljlfnbaaW.PrintWords

/-- What subframe.Rest tells. -/
def restI (xs : List Int) (s : SubV) : List Int × Int :=
  if s.kind = 0 ∨ s.kind = 1 then ([], 0)
  else if s.kind = 2 then (if (residI (downI xs s.wasted) s.order).2 = 0 ∧ (residI (downI xs s.wasted) s.order).1.any wideB = true then ([], 14) else residI (downI xs s.wasted) s.order)
  else if s.kind = 3 then (if (lresI s.fs s.shift s.prec (downI xs s.wasted)).2 = 0 ∧ (lresI s.fs s.shift s.prec (downI xs s.wasted)).1.any wideB = true then ([], 14) else lresI s.fs s.shift s.prec (downI xs s.wasted))
  else ([], 1)

theorem wide_contains (A : Option Addr) (n c : Nat) (xs : List Int) (w : World) (hr : ReadsInt w .i64 A n xs) :
    Calls Try.prog 88 #[.slice A n c, .func (.func 89) #[] #[]] w fun e w' => e = .returned (.bool (xs.any wideB)) ∧ Below w.heap.size w w' :=
  ContainsFunc_any A n c xs 89 #[] #[] wideB w hr (fun _ _ => by kernel_rfl) (fun W _ x _ => (wide_any x W).mono fun e w' ⟨he, hw⟩ => ⟨he, hw ▸ Below.refl _ _⟩)

theorem down_bd (xs : List Int) (b : Int) (h : ∀ x ∈ xs, -1099511627776 ≤ x ∧ x ≤ 1099511627776) : ∀ x ∈ downI xs b, -1099511627776 ≤ x ∧ x ≤ 1099511627776 := by
  intro y hy
  simp only [downI, List.mem_map] at hy
  obtain ⟨x, hx, rfl⟩ := hy
  have h1 := h x hx
  have hp := p2_pos (downBy b)
  constructor
  · apply Int.le_ediv_of_mul_le hp
    have : -1099511627776 * p2 (downBy b) ≤ -1099511627776 * 1 := Int.mul_le_mul_of_nonpos_left (by omega) (by omega)
    omega
  · rcases Int.le_total 0 x with h0 | h0
    · have := Int.ediv_le_self (p2 (downBy b)) h0; omega
    · have : x / p2 (downBy b) ≤ 0 := Int.ediv_le_of_le_mul hp (by omega)
      omega

set_option maxHeartbeats 1000000 in
theorem Rest_any (A : Option Addr) (n c : Nat) (xs : List Int) (s : SubV) (w : World) (hr : ReadsInt w .i64 A n xs) (hs : SubR w s) (hn : n ≤ 1000000) (hx : ∀ x ∈ xs, -1099511627776 ≤ x ∧ x ≤ 1099511627776) :
    Calls Try.prog 50 #[.slice A n c, subVal s] w fun e w' => ∃ v, e = .returned (.tuple #[v, .int .i64 (restI xs s).2]) ∧ OwnI w' w.heap.size 3 .i64 v (restI xs s).1 ∧ Below w.heap.size w w' := by
  have HR := Lib.hid hr
  have HS := Lib.hid hs
  have HX := Lib.hid (down_bd xs s.wasted hx)
  have hl := hr.1
  clear hr hs hx
  subst hl
  have hdl : (downI xs s.wasted).length = xs.length := by simp [downI]
  obtain ⟨ys, hys⟩ : ∃ ys, downI xs s.wasted = ys := ⟨_, rfl⟩
  rw [hys] at HX hdl
  have HYS := Lib.hid hys
  have HDL := Lib.hid hdl
  clear hys hdl
  obtain ⟨W0, hW0⟩ : ∃ W0, w.alloc (Obj.cells (subCells s) 32) = W0 := ⟨_, rfl⟩
  have h00 : W0.cell? ⟨w.heap.size, 0, none⟩ = some (.int .i64 s.kind) := by rw [← hW0]; simp [go_sem]
  have h01 : W0.cell? ⟨w.heap.size, 1, none⟩ = some (.int .i64 s.wasted) := by rw [← hW0]; simp [go_sem]
  have h02 : W0.cell? ⟨w.heap.size, 2, none⟩ = some (.int .i64 s.order) := by rw [← hW0]; simp [go_sem]
  have h03 : W0.cell? ⟨w.heap.size, 3, none⟩ = some (.int .i64 s.shift) := by rw [← hW0]; simp [go_sem]
  have h04 : W0.cell? ⟨w.heap.size, 4, none⟩ = some (.int .i64 s.prec) := by rw [← hW0]; simp [go_sem]
  have h05 : W0.cell? ⟨w.heap.size, 5, none⟩ = some (.slice s.FA s.fs.length s.fc) := by rw [← hW0]; simp [go_sem]
  have hb0 : Below w.heap.size w W0 := by rw [← hW0]; exact ba _ _
  by_cases k0 : s.kind = 0
  · have HV : Hid (restI xs s = ([], 0)) := Lib.hid (by unfold restI; rw [if_pos (.inl k0)])
    go_enter Try.func50, Try.ntmps50
    go_wp2_with fail
    refine (down_any A xs.length c xs s.wasted W0 (HR.out.below hb0) hn).mono ?_
    rintro e w1 ⟨v, rfl, hown, hb⟩
    clear hown
    have w00 : w1.cell? ⟨w.heap.size, 0, none⟩ = some (.int .i64 s.kind) := pw_cell_below hb h00
    have HNR : Hid (ReadsInt w1 .i64 none 0 []) := Lib.hid ⟨rfl, by omega, fun h => absurd h (by omega)⟩
    go_wp2_with (go_at_call 88; refine (wide_contains _ _ _ [] _ HNR.out).mono ?_; rintro e w3 ⟨rfl, hb3⟩; simp only [List.any_nil])
    go_ret2
    exact ⟨_, by rw [HV.out]; rfl, by rw [HV.out]; exact own_nil _ _ _ _, bt hb0 (bt hb hb3)⟩
  by_cases k1 : s.kind = 1
  · have HV : Hid (restI xs s = ([], 0)) := Lib.hid (by unfold restI; rw [if_pos (.inr k1)])
    have k0b : (s.kind == 0) = false := by rw [beq_eq_false_iff_ne]; exact k0
    clear k0
    go_enter Try.func50, Try.ntmps50
    go_wp2_with fail
    refine (down_any A xs.length c xs s.wasted W0 (HR.out.below hb0) hn).mono ?_
    rintro e w1 ⟨v, rfl, hown, hb⟩
    clear hown
    have w00 : w1.cell? ⟨w.heap.size, 0, none⟩ = some (.int .i64 s.kind) := pw_cell_below hb h00
    have HNR : Hid (ReadsInt w1 .i64 none 0 []) := Lib.hid ⟨rfl, by omega, fun h => absurd h (by omega)⟩
    go_wp2_with (go_at_call 88; refine (wide_contains _ _ _ [] _ HNR.out).mono ?_; rintro e w3 ⟨rfl, hb3⟩; simp only [List.any_nil])
    go_ret2
    exact ⟨_, by rw [HV.out]; rfl, by rw [HV.out]; exact own_nil _ _ _ _, bt hb0 (bt hb hb3)⟩
  by_cases k2 : s.kind = 2
  · obtain ⟨R, hR⟩ : ∃ R, residI ys s.order = R := ⟨_, rfl⟩
    have HRR := Lib.hid hR
    have HV : Hid (restI xs s = if R.2 = 0 ∧ R.1.any wideB = true then ([], 14) else R) := Lib.hid (by unfold restI; rw [if_neg (by omega), if_pos k2, HYS.out, hR])
    clear hR
    obtain ⟨lst, er⟩ := R
    dsimp only at HV
    go_enter Try.func50, Try.ntmps50
    go_wp2_with fail
    refine (down_any A xs.length c xs s.wasted W0 (HR.out.below hb0) hn).mono ?_
    rintro e w1 ⟨v, rfl, hown, hb⟩
    rw [HYS.out] at hown
    obtain ⟨A1, c1, rfl, hrc⟩ := own_reads hown
    rw [HDL.out] at hrc ⊢
    have HRC := Lib.hid hrc
    clear hrc hown
    have w00 : w1.cell? ⟨w.heap.size, 0, none⟩ = some (.int .i64 s.kind) := pw_cell_below hb h00
    have w02 : w1.cell? ⟨w.heap.size, 2, none⟩ = some (.int .i64 s.order) := pw_cell_below hb h02
    go_wp2_with fail
    refine (Residual_any A1 xs.length c1 ys s.order w1 HRC.out hn HX.out).mono ?_
    rintro e w2 ⟨v2, rfl, hown2, hb2⟩
    rw [HRR.out] at hown2 ⊢
    dsimp only at hown2 ⊢
    have HO2 := Lib.hid hown2
    obtain ⟨A2, c2, rfl, hrc2⟩ := own_reads hown2
    have HRC2 := Lib.hid hrc2
    clear hrc2 hown2
    have hbt : Below w.heap.size w w2 := bt hb0 (bt hb hb2)
    by_cases he : er = 0
    · subst he
      cases hany : lst.any wideB
      · have HV2 : Hid (restI xs s = (lst, 0)) := Lib.hid (by rw [HV.out, hany]; simp)
        have HANY := Lib.hid hany
        clear hany
        go_wp2_with (go_at_call 88; refine (wide_contains _ _ _ lst _ HRC2.out).mono ?_; rintro e w3 ⟨rfl, hb3⟩; rw [HANY.out])
        go_ret2
        exact ⟨_, by rw [HV2.out]; rfl, by rw [HV2.out]; exact own_weaken (pw_own_below HO2.out hb3) (Nat.le_trans hb0.size hb.size), bt hbt hb3⟩
      · have HV2 : Hid (restI xs s = ([], 14)) := Lib.hid (by rw [HV.out, hany]; simp)
        have HANY := Lib.hid hany
        clear hany
        go_wp2_with (go_at_call 88; refine (wide_contains _ _ _ lst _ HRC2.out).mono ?_; rintro e w3 ⟨rfl, hb3⟩; rw [HANY.out])
        go_ret2
        exact ⟨_, by rw [HV2.out]; rfl, by rw [HV2.out]; exact own_nil _ _ _ _, bt hbt hb3⟩
    · have HV2 : Hid (restI xs s = (lst, er)) := Lib.hid (by rw [HV.out, if_neg (by simp [he])])
      have heb : (er == 0) = false := by rw [beq_eq_false_iff_ne]; exact he
      clear he
      go_wp2
      go_ret2
      exact ⟨_, by rw [HV2.out]; rfl, by rw [HV2.out]; exact own_weaken HO2.out (Nat.le_trans hb0.size hb.size), hbt⟩
  by_cases k3 : s.kind = 3
  · obtain ⟨R, hR⟩ : ∃ R, lresI s.fs s.shift s.prec ys = R := ⟨_, rfl⟩
    have HRR := Lib.hid hR
    have HV : Hid (restI xs s = if R.2 = 0 ∧ R.1.any wideB = true then ([], 14) else R) := Lib.hid (by unfold restI; rw [if_neg (by omega), if_neg k2, if_pos k3, HYS.out, hR])
    clear hR k0 k1 k2
    obtain ⟨lst, er⟩ := R
    dsimp only at HV
    go_enter Try.func50, Try.ntmps50
    go_wp2_with fail
    refine (down_any A xs.length c xs s.wasted W0 (HR.out.below hb0) hn).mono ?_
    rintro e w1 ⟨v, rfl, hown, hb⟩
    rw [HYS.out] at hown
    obtain ⟨A1, c1, rfl, hrc⟩ := own_reads hown
    have hcap := own_cap hown
    rw [HDL.out] at hrc hcap ⊢
    have HRC := Lib.hid hrc
    clear hrc hown
    have w00 : w1.cell? ⟨w.heap.size, 0, none⟩ = some (.int .i64 s.kind) := pw_cell_below hb h00
    have w03 : w1.cell? ⟨w.heap.size, 3, none⟩ = some (.int .i64 s.shift) := pw_cell_below hb h03
    have w04 : w1.cell? ⟨w.heap.size, 4, none⟩ = some (.int .i64 s.prec) := pw_cell_below hb h04
    have w05 : w1.cell? ⟨w.heap.size, 5, none⟩ = some (.slice s.FA s.fs.length s.fc) := pw_cell_below hb h05
    go_wp2_with fail
    refine (lpcResidual_any A1 xs.length c1 ys s.FA s.fc s.fs s.shift s.prec w1 HRC.out ((HS.out.f.below hb0).below hb) hcap hn HX.out).mono ?_
    rintro e w2 ⟨v2, rfl, hown2, hb2⟩
    rw [HRR.out] at hown2 ⊢
    dsimp only at hown2 ⊢
    have HO2 := Lib.hid hown2
    obtain ⟨A2, c2, rfl, hrc2⟩ := own_reads hown2
    have HRC2 := Lib.hid hrc2
    clear hrc2 hown2
    have hbt : Below w.heap.size w w2 := bt hb0 (bt hb hb2)
    by_cases he : er = 0
    · subst he
      cases hany : lst.any wideB
      · have HV2 : Hid (restI xs s = (lst, 0)) := Lib.hid (by rw [HV.out, hany]; simp)
        have HANY := Lib.hid hany
        clear hany
        go_wp2_with (go_at_call 88; refine (wide_contains _ _ _ lst _ HRC2.out).mono ?_; rintro e w3 ⟨rfl, hb3⟩; rw [HANY.out])
        go_ret2
        exact ⟨_, by rw [HV2.out]; rfl, by rw [HV2.out]; exact own_weaken (pw_own_below HO2.out hb3) (Nat.le_trans hb0.size hb.size), bt hbt hb3⟩
      · have HV2 : Hid (restI xs s = ([], 14)) := Lib.hid (by rw [HV.out, hany]; simp)
        have HANY := Lib.hid hany
        clear hany
        go_wp2_with (go_at_call 88; refine (wide_contains _ _ _ lst _ HRC2.out).mono ?_; rintro e w3 ⟨rfl, hb3⟩; rw [HANY.out])
        go_ret2
        exact ⟨_, by rw [HV2.out]; rfl, by rw [HV2.out]; exact own_nil _ _ _ _, bt hbt hb3⟩
    · have HV2 : Hid (restI xs s = (lst, er)) := Lib.hid (by rw [HV.out, if_neg (by simp [he])])
      have heb : (er == 0) = false := by rw [beq_eq_false_iff_ne]; exact he
      clear he
      go_wp2
      go_ret2
      exact ⟨_, by rw [HV2.out]; rfl, by rw [HV2.out]; exact own_weaken HO2.out (Nat.le_trans hb0.size hb.size), hbt⟩
  · have HV : Hid (restI xs s = ([], 1)) := Lib.hid (by unfold restI; rw [if_neg (by omega), if_neg k2, if_neg k3])
    have k0b : (s.kind == 0) = false := by rw [beq_eq_false_iff_ne]; exact k0
    have k1b : (s.kind == 1) = false := by rw [beq_eq_false_iff_ne]; exact k1
    have k2b : (s.kind == 2) = false := by rw [beq_eq_false_iff_ne]; exact k2
    have k3b : (s.kind == 3) = false := by rw [beq_eq_false_iff_ne]; exact k3
    clear k0 k1 k2 k3
    go_enter Try.func50, Try.ntmps50
    go_wp2_with fail
    refine (down_any A xs.length c xs s.wasted W0 (HR.out.below hb0) hn).mono ?_
    rintro e w1 ⟨v, rfl, hown, hb⟩
    clear hown
    have w00 : w1.cell? ⟨w.heap.size, 0, none⟩ = some (.int .i64 s.kind) := pw_cell_below hb h00
    go_wp2
    go_ret2
    exact ⟨_, by rw [HV.out]; rfl, by rw [HV.out]; exact own_nil _ _ _ _, bt hb0 hb⟩
end Go.Proofs.Ytdpgojcljlfnbaa
end
