/- Contracts of the functions that only reckon with numbers; no condition but the numbers' kinds. -/
import Derived.Test.YtdpgojcljlfnbaaBase
set_option linter.unusedVariables false
set_option linter.unusedSimpArgs false
set_option maxRecDepth 100000
namespace Go.Proofs.Ytdpgojcljlfnbaa
open Go.RowKit
open Go.Proofs.YtdpgojcljlfnbaaW.PrintWords

theorem held_any (n : Int) (w : World) : Calls Try.prog 114 #[.int .i64 n] w fun e w' => e = .returned (.int .i64 (max 0 (min n 64))) ∧ w = w' := by
  go_enter Try.func114, Try.ntmps114
  go_wp2
  all_goals (go_ret; exact ⟨ret_int (by omega), rfl⟩)

theorem In_any (n d : Int) (w : World) : Calls Try.prog 85 #[.int .i64 n, .int .i64 d] w fun e w' => e = .returned (.bool (inDepth n d)) ∧ w = w' := by
  by_cases h1 : d < 1
  · have hf : inDepth n d = false := by unfold inDepth; rw [decide_eq_false (by omega)]; simp
    have HF := Lib.hid hf; clear hf
    go_enter Try.func85, Try.ntmps85
    go_wp2
    go_ret
    exact ⟨ret_bool HF.out.symm, rfl⟩
  by_cases h2 : 62 < d
  · have hf : inDepth n d = false := by unfold inDepth; rw [decide_eq_false (p := d ≤ 62) (by omega)]; simp
    have HF := Lib.hid hf; clear hf
    go_enter Try.func85, Try.ntmps85
    go_wp2
    go_ret
    exact ⟨ret_bool HF.out.symm, rfl⟩
  have HF := Lib.hid (in_of n d (by omega) (by omega))
  go_enter Try.func85, Try.ntmps85
  go_wp2
  all_goals (go_ret; refine ⟨ret_bool ?_, rfl⟩; rw [HF.out]; try (first | rfl | simp [*]))

theorem Fold_any (n : Int) (w : World) (h1 : -9223372036854775808 ≤ n) (h2 : n ≤ 9223372036854775807) : Calls Try.prog 141 #[.int .i64 n] w fun e w' => e = .returned (.int .u64 (foldI n)) ∧ w = w' := by
  have HF := Lib.hid (fold_of n h1 h2)
  clear h1 h2
  go_enter Try.func141, Try.ntmps141
  go_wp2
  go_ret
  exact ⟨ret_int HF.out, rfl⟩

theorem rheld_any (n : Int) (w : World) : Calls Try.prog 142 #[.int .i64 n] w fun e w' => e = .returned (.int .i64 (heldI n)) ∧ w = w' := by
  go_enter Try.func142, Try.ntmps142
  go_wp2
  all_goals (go_ret; exact ⟨ret_int (by unfold heldI; omega), rfl⟩)

def nearB (n : Int) : Bool := decide (-8589934592 ≤ n) && decide (n < 8589934592)
theorem Near_any (n : Int) (w : World) : Calls Try.prog 143 #[.int .i64 n] w fun e w' => e = .returned (.bool (nearB n)) ∧ w = w' := by
  go_enter Try.func143, Try.ntmps143
  go_wp2
  all_goals (go_ret; exact ⟨ret_bool (by unfold nearB; simp [*] <;> omega), rfl⟩)

def wideB (n : Int) : Bool := decide (n ≤ -2147483648) || decide (2147483648 ≤ n)
theorem wide_any (n : Int) (w : World) : Calls Try.prog 89 #[.int .i64 n] w fun e w' => e = .returned (.bool (wideB n)) ∧ w = w' := by
  go_enter Try.func89, Try.ntmps89
  go_wp2
  all_goals (go_ret; exact ⟨ret_bool (by unfold wideB; simp [*] <;> omega), rfl⟩)

theorem far_any (n : Int) (w : World) : Calls Try.prog 151 #[.int .i64 n] w fun e w' => e = .returned (.bool (!nearB n)) ∧ w = w' := by
  go_enter Try.func151, Try.ntmps151
  go_wp2_with (go_at_call 143; refine (Near_any _ _).mono ?_; rintro e w' ⟨rfl, rfl⟩)
  go_ret
  exact ⟨rfl, rfl⟩

/-- How many bits a number has by a k, as it is reckoned. -/
def sizeI (n k : Int) : Int := if nearB n then foldI n / p2 (heldI k).toNat + 1 + heldI k else -1
theorem Size_any (n k : Int) (w : World) : Calls Try.prog 152 #[.int .i64 n, .int .i64 k] w fun e w' => e = .returned (.int .i64 (sizeI n k)) ∧ w = w' := by
  cases hN : nearB n
  · have HN := Lib.hid hN; clear hN
    go_enter Try.func152, Try.ntmps152
    go_wp2_with (go_at_call 143; refine (Near_any _ _).mono ?_; rintro e w' ⟨rfl, rfl⟩; rw [HN.out])
    go_ret
    exact ⟨ret_int (by unfold sizeI; rw [HN.out]; rfl), rfl⟩
  · have h0 : -8589934592 ≤ n ∧ n < 8589934592 := by unfold nearB at hN; simpa using hN
    have HN := Lib.hid hN; clear hN
    obtain ⟨h1, h2⟩ := h0
    have hk := held_le k
    obtain ⟨q, hq⟩ : ∃ q, heldI k = q := ⟨_, rfl⟩
    obtain ⟨u, hu⟩ : ∃ u, foldI n = u := ⟨_, rfl⟩
    have hu1 : 0 ≤ u ∧ u ≤ 17179869183 := by subst hu; unfold foldI; split <;> omega
    have HQ := Lib.hid hq; have HU := Lib.hid hu
    rw [hq] at hk
    clear hq hu
    obtain ⟨hk1, hk2⟩ := hk
    obtain ⟨hu1, hu2⟩ := hu1
    have hm1 : 0 ≤ u / 2 ^ q.toNat := Int.ediv_nonneg hu1 (by rw [p2_eq]; exact Int.le_of_lt (p2_pos _))
    have hm2 : u / 2 ^ q.toNat ≤ u := Int.ediv_le_self _ hu1
    go_enter Try.func152, Try.ntmps152
    go_wp2_with (first | (go_at_call 143; refine (Near_any _ _).mono ?_; rintro e w' ⟨rfl, rfl⟩; rw [HN.out]) | (go_at_call 142; refine (rheld_any _ _).mono ?_; rintro e w' ⟨rfl, rfl⟩; rw [HQ.out]) | (go_at_call 141; refine (Fold_any _ _ (by omega) (by omega)).mono ?_; rintro e w' ⟨rfl, rfl⟩; rw [HU.out]))
    go_ret
    exact ⟨ret_int (by unfold sizeI; rw [HN.out, HQ.out, HU.out]; simp [p2_eq]), rfl⟩
theorem raw_any (A : Option Addr) (n : Nat) (c : Nat) (wd : Int) (w : World) : Calls Try.prog 128 #[.slice A n c, .int .i64 wd] w fun e w' => e = .returned (.int .i64 (wrap64 (5 + wrap64 (wd * n)))) ∧ w = w' := by
  go_enter Try.func128, Try.ntmps128
  go_wp2
  go_ret
  exact ⟨rfl, rfl⟩
def mostI (wide : Bool) : Int := if wide then 30 else 14
def sizeK (wide : Bool) : Int := if wide then 5 else 4
theorem top_any (b : Bool) (w : World) : Calls Try.prog 91 #[.bool b] w fun e w' => e = .returned (.tuple #[.int .i64 (mostI b), .int .i64 (sizeK b)]) ∧ w = w' := by
  cases b
  all_goals
    go_enter Try.func91, Try.ntmps91
    go_wp2
    go_ret2
    exact ⟨rfl, rfl⟩

end Go.Proofs.Ytdpgojcljlfnbaa
