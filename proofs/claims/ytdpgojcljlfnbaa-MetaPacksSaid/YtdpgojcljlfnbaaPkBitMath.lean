/- Contracts of functions that the law reaches: BitMath, ReadMath. -/
section
/- Bits and bytes, in plain words: no program in sight. -/
set_option linter.unusedVariables false
set_option linter.unusedSimpArgs false
namespace Go.Proofs.Ytdpgojcljlfnbaa

/-- What bits tell, the highest first. -/
def numB : List Bool → Nat
  | [] => 0
  | b :: l => (if b then 2 ^ l.length else 0) + numB l
theorem numB_lt (l : List Bool) : numB l < 2 ^ l.length := by
  induction l with
  | nil => simp [numB]
  | cons b l ih => simp only [numB, List.length_cons, Nat.pow_succ]; split <;> omega
theorem numB_test (l : List Bool) (i : Nat) : (numB l).testBit i = (decide (i < l.length) && l.getD (l.length - 1 - i) false) := by
  induction l generalizing i with
  | nil => simp [numB]
  | cons b l ih =>
    have hlt := numB_lt l
    have e : numB (b :: l) = 2 ^ l.length * (if b then 1 else 0) + numB l := by simp only [numB]; split <;> simp
    rw [e, Nat.testBit_two_pow_mul_add _ hlt]
    by_cases h1 : i < l.length
    · rw [if_pos h1, ih]
      have h2 : (b :: l).length - 1 - i = (l.length - 1 - i) + 1 := by simp; omega
      rw [h2]
      simp [h1, show i < l.length + 1 by omega]
    · rw [if_neg h1]
      by_cases h2 : i = l.length
      · subst h2; cases b <;> simp
      · have h3 : ¬ i < (b :: l).length := by simp; omega
        have h4 : (if b = true then 1 else 0).testBit (i - l.length) = false := by
          apply Nat.testBit_lt_two_pow
          have : 2 ≤ 2 ^ (i - l.length) := by
            have := Nat.pow_le_pow_right (n := 2) (by decide) (show 1 ≤ i - l.length by omega)
            simpa using this
          split <;> omega
        rw [h4]; simp [h3]; omega
/-- A byte of bits: 0 where there are none. -/
def byteAt (bs : List Bool) (i : Nat) : Nat := numB ((List.range 8).map fun j => bs.getD (8 * i + j) false)
theorem byteAt_lt (bs : List Bool) (i : Nat) : byteAt bs i < 256 := by
  have := numB_lt ((List.range 8).map fun j => bs.getD (8 * i + j) false)
  simpa [byteAt] using this
theorem byteAt_test (bs : List Bool) (i t : Nat) : (byteAt bs i).testBit t = (decide (t < 8) && bs.getD (8 * i + (7 - t)) false) := by
  unfold byteAt
  rw [numB_test]
  simp only [List.length_map, List.length_range]
  by_cases h : t < 8
  · simp only [h, decide_true, Bool.true_and]
    rw [show 8 - 1 - t = 7 - t from by omega, List.getD_eq_getElem?_getD, List.getElem?_map, List.getElem?_range (by omega)]
    simp
  · simp [h]
def toBytes (bs : List Bool) : List Int := (List.range ((bs.length + 7) / 8)).map fun i => (byteAt bs i : Int)
theorem toBytes_length (bs : List Bool) : (toBytes bs).length = (bs.length + 7) / 8 := by simp [toBytes]
/-- The lowest k bits of a number, the highest first. -/
def digits (n : Nat) (k : Nat) : List Bool := (List.range k).map fun i => n.testBit (k - 1 - i)
theorem digits_length (n k : Nat) : (digits n k).length = k := by simp [digits]
theorem digits_getD (n k i : Nat) (h : i < k) : (digits n k).getD i false = n.testBit (k - 1 - i) := by
  unfold digits
  rw [List.getD_eq_getElem?_getD, List.getElem?_map, List.getElem?_range h]; rfl
theorem numB_digits (n k : Nat) : numB (digits n k) = n % 2 ^ k := by
  apply Nat.eq_of_testBit_eq
  intro i
  rw [numB_test, digits_length, Nat.testBit_mod_two_pow]
  by_cases h : i < k
  · rw [digits_getD _ _ _ (by omega)]; simp [h, show k - 1 - (k - 1 - i) = i by omega]
  · simp [h]
theorem digits_split (n m l : Nat) : digits n (m + l) = digits (n / 2 ^ l) m ++ digits n l := by
  apply List.ext_getElem?
  intro i
  unfold digits
  by_cases h1 : i < m
  · rw [List.getElem?_append_left (by simp; exact h1), List.getElem?_map, List.getElem?_map, List.getElem?_range (by omega), List.getElem?_range h1]
    simp only [Option.map_some, Option.some.injEq]
    rw [Nat.testBit_div_two_pow, show m + l - 1 - i = m - 1 - i + l from by omega]
  · rw [List.getElem?_append_right (by simp; omega)]
    simp only [List.length_map, List.length_range, List.getElem?_map]
    by_cases h2 : i < m + l
    · rw [List.getElem?_range h2, List.getElem?_range (by omega)]
      simp only [Option.map_some, Option.some.injEq]
      rw [show m + l - 1 - i = l - 1 - (i - m) from by omega]
    · rw [List.getElem?_eq_none (by simp; omega), List.getElem?_eq_none (by simp; omega)]; rfl

theorem byteAt_append_low (bs ds : List Bool) (i : Nat) (h : 8 * i + 8 ≤ bs.length) : byteAt (bs ++ ds) i = byteAt bs i := by
  apply Nat.eq_of_testBit_eq
  intro t
  rw [byteAt_test, byteAt_test]
  by_cases ht : t < 8
  · simp only [List.getD_eq_getElem?_getD]
    rw [List.getElem?_append_left (by omega)]
  · simp [ht]
theorem byteAt_none (bs : List Bool) (i : Nat) (h : bs.length ≤ 8 * i) : byteAt bs i = 0 := by
  apply Nat.eq_of_testBit_eq
  intro t
  rw [byteAt_test, Nat.zero_testBit]
  simp only [List.getD_eq_getElem?_getD]
  rw [List.getElem?_eq_none (by omega)]; simp
theorem byteAt_append_high (bs ds : List Bool) (r m : Nat) (hr : bs.length % 8 = r) (hm : ds.length = m) (h : m ≤ 8 - r) :
    byteAt (bs ++ ds) (bs.length / 8) = byteAt bs (bs.length / 8) ||| numB ds * 2 ^ (8 - r - m) := by
  apply Nat.eq_of_testBit_eq
  intro t
  have hl : bs.length = 8 * (bs.length / 8) + r := by omega
  generalize bs.length / 8 = q at hl ⊢
  rw [Nat.testBit_or, byteAt_test, byteAt_test, ← Nat.shiftLeft_eq, Nat.testBit_shiftLeft, numB_test, hm]
  by_cases ht : t < 8
  · simp only [ht, decide_true, Bool.true_and, List.getD_eq_getElem?_getD]
    by_cases h1 : 7 - t < r
    · rw [List.getElem?_append_left (by omega)]
      have h2 : ¬ t - (8 - r - m) < m := by omega
      simp [h2]
    · rw [List.getElem?_append_right (by omega), List.getElem?_eq_none (l := bs) (by omega)]
      by_cases h3 : 8 - r - m ≤ t
      · have e1 : 8 * q + (7 - t) - bs.length = m - 1 - (t - (8 - r - m)) := by omega
        rw [e1]
        have h4 : t - (8 - r - m) < m := by omega
        simp [h3, h4]
      · rw [List.getElem?_eq_none (by omega)]
        simp [h3]
  · have h2 : ¬ t - (8 - r - m) < m := by omega
    simp [ht, h2]
theorem toBytes_step (bs ds : List Bool) (r m : Nat) (hr : bs.length % 8 = r) (hm : ds.length = m) (h0 : 1 ≤ m) (h : m ≤ 8 - r) :
    toBytes (bs ++ ds) = (toBytes bs).take (bs.length / 8) ++ [((byteAt bs (bs.length / 8) ||| numB ds * 2 ^ (8 - r - m) : Nat) : Int)] := by
  have hl : ((bs ++ ds).length + 7) / 8 = bs.length / 8 + 1 := by rw [List.length_append, hm]; omega
  unfold toBytes
  rw [hl, List.range_succ, List.map_append]
  congr 1
  · rw [← List.map_take, List.take_range]
    have e : min (bs.length / 8) ((bs.length + 7) / 8) = bs.length / 8 := by omega
    rw [e]
    apply List.map_congr_left
    intro i hi
    rw [List.mem_range] at hi
    rw [byteAt_append_low _ _ _ (by omega)]
  · simp only [List.map_cons, List.map_nil]
    rw [byteAt_append_high bs ds r m hr hm h]
theorem toBytes_full (bs : List Bool) (hr : bs.length % 8 = 0) : (toBytes bs).take (bs.length / 8) = toBytes bs ∧ (toBytes bs).length = bs.length / 8 ∧ byteAt bs (bs.length / 8) = 0 := by
  have h : (toBytes bs).length = bs.length / 8 := by rw [toBytes_length]; omega
  exact ⟨List.take_of_length_le (by omega), h, byteAt_none _ _ (by omega)⟩
theorem toBytes_part (bs : List Bool) (hr : bs.length % 8 ≠ 0) : (toBytes bs).length = bs.length / 8 + 1 ∧ toBytes bs = (toBytes bs).take (bs.length / 8) ++ [(byteAt bs (bs.length / 8) : Int)] := by
  have h : (bs.length + 7) / 8 = bs.length / 8 + 1 := by omega
  refine ⟨by rw [toBytes_length, h], ?_⟩
  unfold toBytes
  rw [h, List.range_succ, List.map_append, List.take_append_of_le_length (by simp), List.take_of_length_le (by simp)]
  simp
end Go.Proofs.Ytdpgojcljlfnbaa
end
section
/- Plain laws on bits that are read: bytes as bits, numbers put together; no condition. -/
set_option linter.unusedVariables false
set_option linter.unusedSimpArgs false
namespace Go.Proofs.Ytdpgojcljlfnbaa

/-- The bits of bytes. -/
def bitsOf (ys : List Int) : List Bool := ys.flatMap fun y => digits y.toNat 8
theorem bitsOf_cons (y : Int) (ys : List Int) : bitsOf (y :: ys) = digits y.toNat 8 ++ bitsOf ys := rfl
theorem bitsOf_length (ys : List Int) : (bitsOf ys).length = 8 * ys.length := by
  induction ys with
  | nil => rfl
  | cons y ys ih => rw [bitsOf_cons, List.length_append, digits_length, ih, List.length_cons]; omega
theorem bitsOf_getD (ys : List Int) (i j : Nat) (hi : i < ys.length) (hj : j < 8) : (bitsOf ys).getD (8 * i + j) false = (ys.getD i 0).toNat.testBit (7 - j) := by
  induction ys generalizing i with
  | nil => simp at hi
  | cons y ys ih =>
    rw [bitsOf_cons]
    cases i with
    | zero =>
      rw [List.getD_eq_getElem?_getD, List.getElem?_append_left (by rw [digits_length]; omega), ← List.getD_eq_getElem?_getD, show 8 * 0 + j = j from by omega, digits_getD _ _ _ hj]
      rfl
    | succ i =>
      rw [List.getD_eq_getElem?_getD, List.getElem?_append_right (by rw [digits_length]; omega), digits_length, show 8 * (i + 1) + j - 8 = 8 * i + j from by omega, ← List.getD_eq_getElem?_getD, ih i (by simpa using hi)]
      rfl
theorem numB_append (a b : List Bool) : numB (a ++ b) = numB a * 2 ^ b.length + numB b := by
  induction a with
  | nil => simp [numB]
  | cons x a ih =>
    simp only [List.cons_append, numB, ih, List.length_append]
    split
    · rw [Nat.add_mul, Nat.pow_add]; omega
    · rw [Nat.zero_add, Nat.zero_add]
/-- What m bits are that stand in one byte. -/
theorem part_read (ys : List Int) (at_ r m : Nat) (hy : ∀ y ∈ ys, 0 ≤ y ∧ y < 256) (hr : at_ % 8 = r) (hm : m ≤ 8 - r) (hat : at_ / 8 < ys.length) :
    (ys.getD (at_ / 8) 0).toNat / 2 ^ (8 - r - m) % 2 ^ m = numB (((bitsOf ys).drop at_).take m) := by
  have hlen : (((bitsOf ys).drop at_).take m).length = m := by
    rw [List.length_take, List.length_drop, bitsOf_length]; omega
  apply Nat.eq_of_testBit_eq
  intro t
  rw [numB_test, hlen, Nat.testBit_mod_two_pow, Nat.testBit_div_two_pow]
  by_cases ht : t < m
  · simp only [ht, decide_true, Bool.true_and]
    have e : (((bitsOf ys).drop at_).take m).getD (m - 1 - t) false = (bitsOf ys).getD (8 * (at_ / 8) + (r + (m - 1 - t))) false := by
      rw [List.getD_eq_getElem?_getD, List.getElem?_take_of_lt (by omega), List.getElem?_drop, ← List.getD_eq_getElem?_getD, show at_ + (m - 1 - t) = 8 * (at_ / 8) + (r + (m - 1 - t)) from by omega]
    rw [e, bitsOf_getD ys (at_ / 8) (r + (m - 1 - t)) hat (by omega)]
    congr 1
    omega
  · simp [ht]
theorem take_step (bs : List Bool) (a k m : Nat) : (bs.drop a).take (k + m) = (bs.drop a).take k ++ (bs.drop (a + k)).take m := by
  rw [List.take_add, List.drop_drop]
/-- One round of reading: what is read so far, and m bits more. -/
theorem num_step (bs : List Bool) (a k m : Nat) (h : a + k + m ≤ bs.length) : numB ((bs.drop a).take (k + m)) = numB ((bs.drop a).take k) * 2 ^ m + numB ((bs.drop (a + k)).take m) := by
  have e : ((bs.drop (a + k)).take m).length = m := by rw [List.length_take, List.length_drop]; omega
  rw [take_step, numB_append, e]
theorem or_step (x p m : Nat) (hp : p < 2 ^ m) : (x * 2 ^ m) ||| p = x * 2 ^ m + p := by
  rw [Nat.mul_comm, Nat.two_pow_add_eq_or_of_lt hp]
end Go.Proofs.Ytdpgojcljlfnbaa
end
