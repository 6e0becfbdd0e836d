/- Contracts of package cost: how many bits a part has, its width; the lists shorter than a million. -/
import Derived.Test.YtdpgojcljlfnbaaList
set_option linter.unusedVariables false
set_option linter.unusedSimpArgs false
set_option maxRecDepth 100000
namespace Go.Proofs.Ytdpgojcljlfnbaa
open Go.RowKit
open Go.Proofs.YtdpgojcljlfnbaaW.PrintWords

theorem sizeI_bd (n k : Int) (h : nearB n = true) : 0 ≤ sizeI n k ∧ sizeI n k ≤ 17179869300 := by
  have h0 : -8589934592 ≤ n ∧ n < 8589934592 := by unfold nearB at h; simpa using h
  have hk := held_le k
  have h1 : 0 ≤ foldI n ∧ foldI n ≤ 17179869183 := by unfold foldI; split <;> omega
  have h2 : 0 ≤ foldI n / p2 (heldI k).toNat := Int.ediv_nonneg h1.1 (Int.le_of_lt (p2_pos _))
  have h3 : foldI n / p2 (heldI k).toNat ≤ foldI n := Int.ediv_le_self _ h1.1
  unfold sizeI
  rw [h]; simp only [if_true]
  omega

/-- The bits of all numbers by a k. -/
def sumI (k : Int) : List Int → Int
  | [] => 0
  | x :: xs => sizeI x k + sumI k xs
theorem sumI_append (k : Int) (a b : List Int) : sumI k (a ++ b) = sumI k a + sumI k b := by
  induction a with
  | nil => simp [sumI]
  | cons x a ih => simp only [List.cons_append, sumI, ih]; omega
theorem sumI_bd (k : Int) (xs : List Int) (h : xs.any (fun x => !nearB x) = false) : 0 ≤ sumI k xs ∧ sumI k xs ≤ 17179869300 * xs.length := by
  induction xs with
  | nil => simp [sumI]
  | cons x a ih =>
    simp only [List.any_cons, Bool.or_eq_false_iff] at h
    have h1 := sizeI_bd x k (by simpa using h.1)
    have h2 := ih h.2
    simp only [sumI, List.length_cons]
    omega
def costB (xs : List Int) (k : Int) : Int := if xs.any (fun x => !nearB x) then -1 else sumI k xs

theorem take_snoc_getD (xs : List Int) (k : Nat) (h : k < xs.length) : xs.take (k + 1) = xs.take k ++ [xs.getD k 0] := by
  rw [List.take_succ_eq_append_getElem h]
  simp [List.getD_eq_getElem?_getD, List.getElem?_eq_getElem h]
theorem any_take_false (p : Int → Bool) (xs : List Int) (k : Nat) (h : xs.any p = false) : (xs.take k).any p = false := by
  rw [List.any_eq_false] at *
  exact fun x hx => h x (List.mem_of_mem_take hx)

theorem far_contains (A : Option Addr) (n c : Nat) (xs : List Int) (w : World) (hr : ReadsInt w .i64 A n xs) :
    Calls Try.prog 88 #[.slice A n c, .func (.func 151) #[] #[]] w fun e w' => e = .returned (.bool (xs.any fun x => !nearB x)) ∧ Below w.heap.size w w' :=
  ContainsFunc_any A n c xs 151 #[] #[] (fun x => !nearB x) w hr (fun _ _ => by kernel_rfl) (fun W _ x _ => (far_any x W).mono fun e w' ⟨he, hw⟩ => ⟨he, hw ▸ Below.refl _ _⟩)

theorem costBits_any (A : Option Addr) (n c : Nat) (xs : List Int) (k : Int) (w : World) (hr : ReadsInt w .i64 A n xs) (hn : n ≤ 1000000) :
    Calls Try.prog 127 #[.slice A n c, .int .i64 k] w fun e w' => e = .returned (.int .i64 (costB xs k)) ∧ Below w.heap.size w w' := by
  have HR := Lib.hid hr
  have hl := hr.1
  clear hr
  cases hf : xs.any fun x => !nearB x
  · have HCB : costB xs k = sumI k xs := by unfold costB; rw [hf]; rfl
    have HF := Lib.hid hf; clear hf
    have HC := Lib.hid HCB; clear HCB
    have HL := Lib.hid hl; clear hl
    go_enter Try.func127, Try.ntmps127
    go_wp2_with (go_at_call 88; refine (far_contains _ _ _ xs _ HR.out).mono ?_; rintro e w1 ⟨rfl, hb⟩; rw [HF.out])
    go_loop [5, 12] (fun s i => ∃ j : Nat, j ≤ n ∧ i = .int .i64 j ∧ s = .int .i64 (sumI k (xs.take j))) (fun _ i => n - (intOf i).toNat)
    case atStart => exact ⟨0, Nat.zero_le _, rfl, rfl⟩
    case round =>
      obtain ⟨j, hj, rfl, rfl⟩ := hrel
      by_cases hlt : j < n
      · obtain ⟨ad, rfl, hc⟩ := rd_nat (HR.out.below hb) hlt
        have hts := take_snoc_getD xs j (by rw [HL.out]; exact hlt)
        have hmem := getD_mem xs j (by rw [HL.out]; exact hlt)
        obtain ⟨x, hx⟩ : ∃ x, xs.getD j 0 = x := ⟨_, rfl⟩
        rw [hx] at hc hts hmem
        have hs := sumI_bd k (xs.take j) (any_take_false _ _ _ HF.out)
        have hln : (xs.take j).length ≤ 1000000 := by rw [List.length_take, HL.out]; omega
        have hnx : nearB x = true := by have := (List.any_eq_false.1 HF.out) x hmem; simpa using this
        have hz := sizeI_bd x k hnx
        obtain ⟨s, hs'⟩ : ∃ s, sumI k (xs.take j) = s := ⟨_, rfl⟩
        obtain ⟨z, hz'⟩ : ∃ z, sizeI x k = z := ⟨_, rfl⟩
        rw [hs'] at hs ⊢
        rw [hz'] at hz
        have HS : Hid (sumI k (xs.take (j + 1)) = s + z) := Lib.hid (by rw [hts, sumI_append, hs']; simp [sumI, hz'])
        have HZ := Lib.hid hz'
        have hs1 : 0 ≤ s ∧ s ≤ 17179869300000000 := by omega
        obtain ⟨hs1, hs2⟩ := hs1
        obtain ⟨hz1, hz2⟩ := hz
        clear hs hs' hz' hts hmem hx hnx hln
        go_wp2_with (go_at_call 152; refine (Size_any _ _ _).mono ?_; rintro e w' ⟨rfl, rfl⟩; rw [HZ.out])
        go_round
        case rel => exact ⟨j + 1, by omega, by go_num, by rw [HS.out]⟩
        case measure => simp [intOf]; omega
      · go_wp2
        go_ret
        exact ⟨ret_int (by rw [HC.out, List.take_of_length_le (by rw [HL.out]; omega)]), hb⟩
  · have HCB : costB xs k = -1 := by unfold costB; rw [hf]; rfl
    have HF := Lib.hid hf; clear hf
    have HC := Lib.hid HCB; clear HCB
    go_enter Try.func127, Try.ntmps127
    go_wp2_with (go_at_call 88; refine (far_contains _ _ _ xs _ HR.out).mono ?_; rintro e w1 ⟨rfl, hb⟩; rw [HF.out])
    go_ret
    exact ⟨ret_int HC.out.symm, hb⟩

/-- A width that is wide enough for a number, from one on. -/
def growI : Nat → Int → Int → Int
  | 0, _, w => w
  | k + 1, n, w => if n = 0 ∨ inDepth n w = true then w else growI k n (w + 1)
def widAll : List Int → Int → Int
  | [], w => w
  | x :: xs, w => widAll xs (growI (40 - w).toNat x w)
def widI (xs : List Int) : Int := if xs.any (fun x => !nearB x) then -1 else widAll xs 0
theorem near_in40 (n : Int) (h : nearB n = true) : inDepth n 40 = true := by
  have h0 : -8589934592 ≤ n ∧ n < 8589934592 := by unfold nearB at h; simpa using h
  unfold inDepth p2; simp; omega
theorem growI_bd (k : Nat) (n w : Int) (h0 : 0 ≤ w) : w ≤ growI k n w ∧ growI k n w ≤ w + k := by
  induction k generalizing w with
  | zero => simp [growI]
  | succ k ih =>
    simp only [growI]
    split
    · omega
    · have := ih (w + 1) (by omega); omega
theorem widAll_snoc (xs : List Int) (x w : Int) : widAll (xs ++ [x]) w = growI (40 - widAll xs w).toNat x (widAll xs w) := by
  induction xs generalizing w with
  | nil => rfl
  | cons y ys ih => simp only [List.cons_append, widAll]; exact ih _
theorem widAll_bd (xs : List Int) (w : Int) (h0 : 0 ≤ w) (h1 : w ≤ 40) : w ≤ widAll xs w ∧ widAll xs w ≤ 40 := by
  induction xs generalizing w with
  | nil => simp [widAll, h1]
  | cons x xs ih =>
    have := growI_bd (40 - w).toNat x w h0
    have := ih (growI (40 - w).toNat x w) (by omega) (by omega)
    simp only [widAll]; omega

theorem Width_any (A : Option Addr) (n c : Nat) (xs : List Int) (w : World) (hr : ReadsInt w .i64 A n xs) (hn : n ≤ 1000000) :
    Calls Try.prog 126 #[.slice A n c] w fun e w' => e = .returned (.int .i64 (widI xs)) ∧ Below w.heap.size w w' := by
  have HR := Lib.hid hr
  have hl := hr.1
  clear hr
  cases hf : xs.any fun x => !nearB x
  · have HCB : widI xs = widAll xs 0 := by unfold widI; rw [hf]; rfl
    have HF := Lib.hid hf; clear hf
    have HC := Lib.hid HCB; clear HCB
    have HL := Lib.hid hl; clear hl
    go_enter Try.func126, Try.ntmps126
    go_wp2_with (go_at_call 88; refine (far_contains _ _ _ xs _ HR.out).mono ?_; rintro e w1 ⟨rfl, hb⟩; rw [HF.out])
    go_loop [3, 10] (fun s i => ∃ j : Nat, j ≤ n ∧ i = .int .i64 j ∧ s = .int .i64 (widAll (xs.take j) 0)) (fun _ i => n - (intOf i).toNat)
    case atStart => exact ⟨0, Nat.zero_le _, rfl, rfl⟩
    case round =>
      obtain ⟨j, hj, rfl, rfl⟩ := hrel
      by_cases hlt : j < n
      · obtain ⟨ad, rfl, hc⟩ := rd_nat (HR.out.below hb) hlt
        have hts := take_snoc_getD xs j (by rw [HL.out]; exact hlt)
        have hmem := getD_mem xs j (by rw [HL.out]; exact hlt)
        obtain ⟨x, hx⟩ : ∃ x, xs.getD j 0 = x := ⟨_, rfl⟩
        rw [hx] at hc hts hmem
        have hnx : nearB x = true := by have := (List.any_eq_false.1 HF.out) x hmem; simpa using this
        have hwb := widAll_bd (xs.take j) 0 (by omega) (by omega)
        have hws := widAll_snoc (xs.take j) x 0
        rw [← hts] at hws
        obtain ⟨u, hu⟩ : ∃ u, widAll (xs.take j) 0 = u := ⟨_, rfl⟩
        rw [hu] at hws hwb ⊢
        have HW := Lib.hid hws
        have HNX := Lib.hid (near_in40 x hnx)
        clear hu hws hts hmem hx hnx
        obtain ⟨hw0, hw1⟩ := hwb
        go_wp2
        go_loop [3] (fun s => ∃ v : Int, s = .int .i64 v ∧ 0 ≤ v ∧ v ≤ 40 ∧ Hid (growI (40 - v).toNat x v = growI (40 - u).toNat x u)) (fun s => (40 - intOf s).toNat)
        case atStart => exact ⟨u, rfl, hw0, hw1, Lib.hid rfl⟩
        case round =>
          obtain ⟨v, rfl, hv0, hv1, hg⟩ := hrel
          by_cases h0 : x = 0
          · have hx0 : (x != 0) = false := by simp [h0]
            have HG : Hid (v = growI (40 - u).toNat x u) := Lib.hid (by rw [← hg.out]; cases h : (40 - v).toNat <;> simp [growI, h0])
            have HX := Lib.hid h0; clear h0
            go_wp2
            go_round
            case rel => exact ⟨j + 1, by omega, by go_num, by rw [HW.out, ← HG.out]⟩
            case measure => simp [intOf]; omega
          · have hx0 : (x != 0) = true := by simp [h0]
            have HX := Lib.hid h0; clear h0
            cases hin : inDepth x v
            · have hv40 : v < 40 := by
                rcases Int.lt_or_eq_of_le hv1 with h | h
                · exact h
                · rw [h, HNX.out] at hin; cases hin
              have HG : Hid (growI (40 - (v + 1)).toNat x (v + 1) = growI (40 - u).toNat x u) := Lib.hid (by
                rw [← hg.out, show (40 - v).toNat = (40 - (v + 1)).toNat + 1 from by omega]
                simp only [growI]
                rw [if_neg (by rw [hin]; simp [HX.out])])
              have HI := Lib.hid hin; clear hin
              go_wp2_with (go_at_call 85; refine (In_any _ _ _).mono ?_; rintro e w' ⟨rfl, rfl⟩; rw [HI.out])
              go_round
              case rel => exact ⟨v + 1, rfl, by omega, by omega, HG⟩
              case measure => simp [intOf]; omega
            · have HG : Hid (v = growI (40 - u).toNat x u) := Lib.hid (by rw [← hg.out]; cases h : (40 - v).toNat <;> simp [growI, hin])
              have HI := Lib.hid hin; clear hin
              go_wp2_with (go_at_call 85; refine (In_any _ _ _).mono ?_; rintro e w' ⟨rfl, rfl⟩; rw [HI.out])
              go_round
              case rel => exact ⟨j + 1, by omega, by go_num, by rw [HW.out, ← HG.out]⟩
              case measure => simp [intOf]; omega
      · go_wp2
        go_ret
        exact ⟨ret_int (by rw [HC.out, List.take_of_length_le (by rw [HL.out]; omega)]), hb⟩
  · have HCB : widI xs = -1 := by unfold widI; rw [hf]; rfl
    have HF := Lib.hid hf; clear hf
    have HC := Lib.hid HCB; clear HCB
    go_enter Try.func126, Try.ntmps126
    go_wp2_with (go_at_call 88; refine (far_contains _ _ _ xs _ HR.out).mono ?_; rintro e w1 ⟨rfl, hb⟩; rw [HF.out])
    go_ret
    exact ⟨ret_int HC.out.symm, hb⟩

/-- How many bits a part has by a way. -/
def eachI (xs : List Int) (k : Int) (raw : Bool) : Int := if raw then (if widI xs < 0 ∨ k < widI xs ∨ 31 < k then -1 else wrap64 (5 + wrap64 (k * xs.length))) else costB xs k
theorem Each_any (A : Option Addr) (n c : Nat) (xs : List Int) (k : Int) (raw : Bool) (w : World) (hr : ReadsInt w .i64 A n xs) (hn : n ≤ 1000000) :
    Calls Try.prog 92 #[.slice A n c, .agg #[.int .i64 k, .bool raw]] w fun e w' => e = .returned (.int .i64 (eachI xs k raw)) ∧ Below w.heap.size w w' := by
  have HR := Lib.hid hr
  have HL := Lib.hid hr.1
  clear hr
  cases raw
  · go_enter Try.func92, Try.ntmps92
    go_wp2_with (first | (go_at_call 126; refine (Width_any _ _ _ xs _ (HR.out.below (below_alloc (Below.refl _ _) _)) hn).mono ?_; rintro e w1 ⟨rfl, hb⟩; obtain ⟨hc, hf⟩ := bcell hb) | (go_at_call 127; refine (costBits_any _ _ _ xs _ _ ((HR.out.below (below_alloc (Below.refl _ _) _)).below hb) hn).mono ?_; rintro e w2 ⟨rfl, hb2⟩))
    go_ret
    exact ⟨rfl, bt (bt (ba _ _) hb) hb2⟩
  · obtain ⟨q, hq⟩ : ∃ q, widI xs = q := ⟨_, rfl⟩
    have HQ := Lib.hid hq; clear hq
    by_cases c1 : q < 0
    · go_enter Try.func92, Try.ntmps92
      go_wp2_with (go_at_call 126; refine (Width_any _ _ _ xs _ (HR.out.below (ba _ _)) hn).mono ?_; rintro e w1 ⟨rfl, hb⟩; rw [HQ.out]; obtain ⟨hc, hf⟩ := bcell hb)
      go_ret
      exact ⟨ret_int (by unfold eachI; rw [HQ.out]; simp [c1]), bt (ba _ _) hb⟩
    have c1' : decide (q < 0) = false := decide_eq_false c1
    by_cases c2 : k < q
    · go_enter Try.func92, Try.ntmps92
      go_wp2_with (go_at_call 126; refine (Width_any _ _ _ xs _ (HR.out.below (ba _ _)) hn).mono ?_; rintro e w1 ⟨rfl, hb⟩; rw [HQ.out]; obtain ⟨hc, hf⟩ := bcell hb)
      go_ret
      exact ⟨ret_int (by unfold eachI; rw [HQ.out]; simp [c2]), bt (ba _ _) hb⟩
    by_cases c3 : 31 < k
    · go_enter Try.func92, Try.ntmps92
      go_wp2_with (go_at_call 126; refine (Width_any _ _ _ xs _ (HR.out.below (ba _ _)) hn).mono ?_; rintro e w1 ⟨rfl, hb⟩; rw [HQ.out]; obtain ⟨hc, hf⟩ := bcell hb)
      go_ret
      exact ⟨ret_int (by unfold eachI; rw [HQ.out]; simp [c3]), bt (ba _ _) hb⟩
    go_enter Try.func92, Try.ntmps92
    go_wp2_with (first | (go_at_call 126; refine (Width_any _ _ _ xs _ (HR.out.below (ba _ _)) hn).mono ?_; rintro e w1 ⟨rfl, hb⟩; rw [HQ.out]; obtain ⟨hc, hf⟩ := bcell hb) | (go_at_call 128; refine (raw_any _ _ _ _ _).mono ?_; rintro e w' ⟨rfl, rfl⟩))
    go_ret
    exact ⟨ret_int (by unfold eachI; rw [HQ.out, HL.out, if_pos rfl, if_neg (by omega)]), bt (ba _ _) hb⟩
end Go.Proofs.Ytdpgojcljlfnbaa
