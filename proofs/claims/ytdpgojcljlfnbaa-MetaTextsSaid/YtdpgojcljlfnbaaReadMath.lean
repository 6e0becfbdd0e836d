/- Plain laws on bits that are read: bytes as bits, numbers put together; no condition. -/
import Derived.Test.YtdpgojcljlfnbaaBitMath
set_option linter.unusedVariables false
set_option linter.unusedSimpArgs false
namespace Go.Proofs.Ytdpgojcljlfnbaa

/-- The bits of bytes. -/
def bitsOf (ys : List Int) : List Bool := ys.flatMap fun y => digits y.toNat 8
theorem bitsOf_cons (y : Int) (ys : List Int) : bitsOf (y :: ys) = digits y.toNat 8 ++ bitsOf ys := rfl
theorem bitsOf_length (ys : List Int) : (bitsOf ys).length = 8 * ys.length := by
  induction ys with
  | nil => rfl
  | cons y ys ih => rw [bitsOf_cons, List.length_append, digits_length, ih, List.length_cons]; omega
theorem bitsOf_getD (ys : List Int) (i j : Nat) (hi : i < ys.length) (hj : j < 8) : (bitsOf ys).getD (8 * i + j) false = (ys.getD i 0).toNat.testBit (7 - j) := by
  induction ys generalizing i with
  | nil => simp at hi
  | cons y ys ih =>
    rw [bitsOf_cons]
    cases i with
    | zero =>
      rw [List.getD_eq_getElem?_getD, List.getElem?_append_left (by rw [digits_length]; omega), ← List.getD_eq_getElem?_getD, show 8 * 0 + j = j from by omega, digits_getD _ _ _ hj]
      rfl
    | succ i =>
      rw [List.getD_eq_getElem?_getD, List.getElem?_append_right (by rw [digits_length]; omega), digits_length, show 8 * (i + 1) + j - 8 = 8 * i + j from by omega, ← List.getD_eq_getElem?_getD, ih i (by simpa using hi)]
      rfl
theorem numB_append (a b : List Bool) : numB (a ++ b) = numB a * 2 ^ b.length + numB b := by
  induction a with
  | nil => simp [numB]
  | cons x a ih =>
    simp only [List.cons_append, numB, ih, List.length_append]
    split
    · rw [Nat.add_mul, Nat.pow_add]; omega
    · rw [Nat.zero_add, Nat.zero_add]
/-- What m bits are that stand in one byte. -/
theorem part_read (ys : List Int) (at_ r m : Nat) (hy : ∀ y ∈ ys, 0 ≤ y ∧ y < 256) (hr : at_ % 8 = r) (hm : m ≤ 8 - r) (hat : at_ / 8 < ys.length) :
    (ys.getD (at_ / 8) 0).toNat / 2 ^ (8 - r - m) % 2 ^ m = numB (((bitsOf ys).drop at_).take m) := by
  have hlen : (((bitsOf ys).drop at_).take m).length = m := by
    rw [List.length_take, List.length_drop, bitsOf_length]; omega
  apply Nat.eq_of_testBit_eq
  intro t
  rw [numB_test, hlen, Nat.testBit_mod_two_pow, Nat.testBit_div_two_pow]
  by_cases ht : t < m
  · simp only [ht, decide_true, Bool.true_and]
    have e : (((bitsOf ys).drop at_).take m).getD (m - 1 - t) false = (bitsOf ys).getD (8 * (at_ / 8) + (r + (m - 1 - t))) false := by
      rw [List.getD_eq_getElem?_getD, List.getElem?_take_of_lt (by omega), List.getElem?_drop, ← List.getD_eq_getElem?_getD, show at_ + (m - 1 - t) = 8 * (at_ / 8) + (r + (m - 1 - t)) from by omega]
    rw [e, bitsOf_getD ys (at_ / 8) (r + (m - 1 - t)) hat (by omega)]
    congr 1
    omega
  · simp [ht]
theorem take_step (bs : List Bool) (a k m : Nat) : (bs.drop a).take (k + m) = (bs.drop a).take k ++ (bs.drop (a + k)).take m := by
  rw [List.take_add, List.drop_drop]
/-- One round of reading: what is read so far, and m bits more. -/
theorem num_step (bs : List Bool) (a k m : Nat) (h : a + k + m ≤ bs.length) : numB ((bs.drop a).take (k + m)) = numB ((bs.drop a).take k) * 2 ^ m + numB ((bs.drop (a + k)).take m) := by
  have e : ((bs.drop (a + k)).take m).length = m := by rw [List.length_take, List.length_drop]; omega
  rw [take_step, numB_append, e]
theorem or_step (x p m : Nat) (hp : p < 2 ^ m) : (x * 2 ^ m) ||| p = x * 2 ^ m + p := by
  rw [Nat.mul_comm, Nat.two_pow_add_eq_or_of_lt hp]
end Go.Proofs.Ytdpgojcljlfnbaa
