/- Words and small laws that the walks of this seat share; no condition. -/
import Derived.Test.YtdpgojcljlfnbaaRows
import Derived.WalkKit
import Derived.WalkSpells
import Derived.WalkLawsBesides
import Derived.BigQuiet
import Derived.Deep.QuietTactic
import Derived.Deep.LoopGhost
import Derived.Deep.DeepCutAuto
import Derived.Deep.RegionLaw
import Derived.ScopeJumps
import Derived.Lib.Hide
import Derived.Laws.Bits64
import Derived.Test.YtdpgojcljlfnbaaWWords
--DEV
set_option linter.unusedVariables false
set_option linter.unusedSimpArgs false
namespace Go.Proofs.Ytdpgojcljlfnbaa
open Go.RowKit
open Go.Proofs.YtdpgojcljlfnbaaW.PrintWords

theorem info_int : (Try.prog.info? 3).map (fun i => (i.zero, i.size, i.bytes)) = some (some (.int .i64 0), 1, 8) := by kernel_rfl
theorem info_u8 : (Try.prog.info? 5).map (fun i => (i.zero, i.size, i.bytes)) = some (some (.int .u8 0), 1, 1) := by kernel_rfl
theorem ret_int {k : IntKind} {a b : Int} (h : a = b) : Ending.returned (.int k a) = .returned (.int k b) := by rw [h]
theorem ret_two {k k' : IntKind} {a b c d : Int} (h : a = b) (h' : c = d) : Ending.returned (.tuple #[.int k a, .int k' c]) = .returned (.tuple #[.int k b, .int k' d]) := by rw [h, h']
theorem ret_bool {a b : Bool} (h : a = b) : Ending.returned (.bool a) = .returned (.bool b) := by rw [h]

theorem bt {w w1 w2 : World} (h : Below w.heap.size w w1) (k : Below w1.heap.size w1 w2) : Below w.heap.size w w2 := h.trans (k.mono h.size)
theorem ba (w : World) (o : Obj) : Below w.heap.size w (w.alloc o) := below_alloc (Below.refl _ _) o
theorem bd (w : World) (n : Nat) : Below w.heap.size w (w.drewN n) := pw_below_drewN (Below.refl _ _) n
theorem bd1 (w : World) : Below w.heap.size w w.drew := below_drew (Below.refl _ _)
theorem bcell {W w1 : World} (hb : Below W.heap.size W w1) : (∀ b o, b < W.heap.size → w1.cell? ⟨b, o, none⟩ = W.cell? ⟨b, o, none⟩) ∧ (∀ b o, b < W.heap.size → w1.frozen? ⟨b, o, none⟩ = W.frozen? ⟨b, o, none⟩) :=
  ⟨fun b o h => hb.cell (p := ⟨b, o, none⟩) h, fun b o h => hb.frozen (p := ⟨b, o, none⟩) h⟩

/-- 2 to a number, as an Int. -/
def p2 (k : Nat) : Int := ((2 ^ k : Nat) : Int)
theorem p2_pos (k : Nat) : 0 < p2 k := by unfold p2; have := Nat.pow_pos (n := k) (show 0 < 2 by decide); omega
theorem p2_succ (k : Nat) : p2 (k + 1) = 2 * p2 k := by unfold p2; rw [Nat.pow_succ]; omega
theorem p2_eq (k : Nat) : ((2 : Int) ^ k) = p2 k := by unfold p2; simp
/-- Is a number in a depth? -/
def inDepth (n d : Int) : Bool := decide (1 ≤ d) && decide (d ≤ 62) && decide (-(p2 (d - 1).toNat) ≤ n) && decide (n < p2 (d - 1).toNat)
def foldI (n : Int) : Int := if 0 ≤ n then 2 * n else -2 * n - 1
def heldI (k : Int) : Int := max 0 (min k 30)
theorem held_le (k : Int) : 0 ≤ heldI k ∧ heldI k ≤ 30 := by unfold heldI; omega
theorem div_p2_zero (n : Int) (k : Nat) : n / p2 k = 0 ↔ 0 ≤ n ∧ n < p2 k := by
  have hp := p2_pos k
  constructor
  · intro h
    have h1 := Int.mul_ediv_add_emod n (p2 k)
    have h2 := Int.emod_nonneg n (b := p2 k) (by omega)
    have h3 := Int.emod_lt_of_pos n hp
    rw [h] at h1; omega
  · intro ⟨h1, h2⟩; exact Int.ediv_eq_zero_of_lt h1 h2
theorem div_p2_neg (n : Int) (k : Nat) : n / p2 k = -1 ↔ -(p2 k) ≤ n ∧ n < 0 := by
  have hp := p2_pos k
  have h1 := Int.mul_ediv_add_emod n (p2 k)
  have h2 := Int.emod_nonneg n (b := p2 k) (by omega)
  have h3 := Int.emod_lt_of_pos n hp
  constructor
  · intro h; rw [h] at h1; omega
  · intro ⟨ha, hb⟩
    have hc : (n + p2 k) / p2 k = 0 := Int.ediv_eq_zero_of_lt (by omega) (by omega)
    rw [Int.add_ediv_of_dvd_right (Int.dvd_refl _), Int.ediv_self (by omega)] at hc
    omega
theorem in_of (n d : Int) (h1 : 1 ≤ d) (h2 : d ≤ 62) : inDepth n d = (n / 2 ^ (d.toNat - 1) == 0 || n / 2 ^ (d.toNat - 1) == -1) := by
  have e : (d - 1).toNat = d.toNat - 1 := by omega
  rw [p2_eq, Bool.eq_iff_iff]
  simp only [inDepth, Bool.and_eq_true, decide_eq_true_eq, Bool.or_eq_true, beq_iff_eq, div_p2_zero, div_p2_neg, e]
  have := p2_pos (d.toNat - 1)
  omega
theorem fold_of (n : Int) (h1 : -9223372036854775808 ≤ n) (h2 : n ≤ 9223372036854775807) : bits BinOp.xor IntKind.u64 (IntKind.u64.wrap (IntKind.u64.wrap n * 2)) (IntKind.u64.wrap (n / 9223372036854775808)) = foldI n := by
  rw [IntKind.wrap_u64, IntKind.wrap_u64, IntKind.wrap_u64]
  unfold foldI
  by_cases h : 0 ≤ n
  · rw [if_pos h]
    have e1 : n % 18446744073709551616 * 2 % 18446744073709551616 = ((2 * n).toNat : Int) := by omega
    have e2 : n / 9223372036854775808 % 18446744073709551616 = ((0 : Nat) : Int) := by omega
    rw [e1, e2, bits_xor_u64_nat _ _ (by omega) (by omega)]
    simp; omega
  · rw [if_neg h]
    obtain ⟨m, hm⟩ : ∃ m : Nat, n = -(m : Int) - 1 := ⟨(-n - 1).toNat, by omega⟩
    have e1 : n % 18446744073709551616 * 2 % 18446744073709551616 = ((18446744073709551615 - (2 * m + 1) : Nat) : Int) := by omega
    have e2 : n / 9223372036854775808 % 18446744073709551616 = ((18446744073709551615 : Nat) : Int) := by omega
    rw [e1, e2, bits_xor_u64_nat _ _ (by omega) (by omega)]
    have hx : ∀ a : Nat, a < 18446744073709551616 → (18446744073709551615 - a) ^^^ 18446744073709551615 = a := by
      intro a ha
      apply Nat.eq_of_testBit_eq
      intro i
      rw [Nat.testBit_xor, show (18446744073709551615 : Nat) = 2 ^ 64 - 1 from rfl, Nat.testBit_two_pow_sub_one, show 2 ^ 64 - 1 - a = 2 ^ 64 - (a + 1) from by omega, Nat.testBit_two_pow_sub_succ (by omega)]
      by_cases hi : i < 64
      · simp [hi]
      · simp [hi]
        exact Nat.testBit_lt_two_pow (Nat.lt_of_lt_of_le ha (Nat.pow_le_pow_right (by decide : 2 > 0) (show 64 ≤ i by omega)))
    rw [hx _ (by omega)]
    omega
end Go.Proofs.Ytdpgojcljlfnbaa
