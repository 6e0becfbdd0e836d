/- The plain law of SubframeWastes: numbers written with bits that are wasted come back. -/
import Derived.Test.YtdpgojcljlfnbaaBegin
set_option linter.unusedVariables false
set_option linter.unusedSimpArgs false
set_option maxRecDepth 100000
namespace Go.Proofs.Ytdpgojcljlfnbaa
open Go.RowKit
open Go.Proofs.YtdpgojcljlfnbaaW.PrintWords

/-- What bytes of bits are, as bits: they begin with them. -/
theorem bits_bytes (bs : List Bool) : ∃ r, bitsOf (toBytes bs) = bs ++ r := by
  refine ⟨(bitsOf (toBytes bs)).drop bs.length, ?_⟩
  have hlen : bs.length ≤ (bitsOf (toBytes bs)).length := by rw [bitsOf_length, toBytes_length]; omega
  have h : (bitsOf (toBytes bs)).take bs.length = bs := by
    apply List.ext_getElem?
    intro i
    by_cases hi : i < bs.length
    · rw [List.getElem?_take_of_lt hi]
      have hq : i / 8 < (toBytes bs).length := by rw [toBytes_length]; omega
      have h1 := bitsOf_getD (toBytes bs) (i / 8) (i % 8) hq (by omega)
      rw [show 8 * (i / 8) + i % 8 = i from by omega] at h1
      have h2 : (toBytes bs).getD (i / 8) 0 = (byteAt bs (i / 8) : Int) := by
        rw [toBytes_length] at hq
        simp [toBytes, List.getD_eq_getElem?_getD, List.getElem?_map, List.getElem?_range hq]
      rw [h2, Int.toNat_natCast, byteAt_test, show 8 * (i / 8) + (7 - (7 - i % 8)) = i from by omega, decide_eq_true (show 7 - i % 8 < 8 by omega), Bool.true_and] at h1
      rw [List.getD_eq_getElem?_getD, List.getD_eq_getElem?_getD, List.getElem?_eq_getElem (Nat.lt_of_lt_of_le hi hlen), List.getElem?_eq_getElem hi] at h1
      rw [List.getElem?_eq_getElem (Nat.lt_of_lt_of_le hi hlen), List.getElem?_eq_getElem hi]
      simpa using h1
    · rw [List.getElem?_eq_none (by rw [List.length_take]; omega), List.getElem?_eq_none (by omega)]
  calc bitsOf (toBytes bs) = (bitsOf (toBytes bs)).take bs.length ++ (bitsOf (toBytes bs)).drop bs.length := (List.take_append_drop _ _).symm
    _ = _ := by rw [h]
theorem toBytes_byte (bs : List Bool) : ∀ y ∈ toBytes bs, 0 ≤ y ∧ y < 256 := by
  intro y hy
  simp only [toBytes, List.mem_map] at hy
  obtain ⟨i, _, rfl⟩ := hy
  have := byteAt_lt bs i
  omega
/-- Numbers are read as they were written. -/
theorem numsAt_all (pre post : List Bool) (width : Nat) (ys : List Int) (n : Nat) (hn : n ≤ ys.length) :
    numsAt (pre ++ allBits width ys ++ post) pre.length width n = (ys.take n).map fun y => signI (u64N y % 2 ^ width) width := by
  induction n with
  | zero => simp [numsAt]
  | succ n ih =>
    have hlt : n < ys.length := by omega
    rw [numsAt, ih (by omega), List.take_succ_eq_append_getElem hlt, List.map_append]
    congr 1
    have e : ((pre ++ allBits width ys ++ post).drop (pre.length + width * n)).take width = digits (u64N ys[n]) width := by
      have h1 : ys = ys.take n ++ ([ys[n]] ++ ys.drop (n + 1)) := by
        rw [List.singleton_append, ← List.drop_eq_getElem_cons hlt, List.take_append_drop]
      have h2 : allBits width ys = allBits width (ys.take n) ++ (digits (u64N ys[n]) width ++ allBits width (ys.drop (n + 1))) := by
        have h3 := congrArg (allBits width) h1
        rw [allBits_append] at h3
        exact h3
      have hl : (allBits width (ys.take n)).length = width * n := by rw [allBits_length, List.length_take, Nat.min_eq_left (by omega)]
      rw [h2, List.append_assoc, List.append_assoc, ← List.append_assoc, ← hl, ← List.length_append, List.drop_left, List.append_assoc, List.take_left' (digits_length _ _)]
    rw [e, numB_digits]
    rfl
theorem sign_back (y : Int) (width : Nat) (h1 : 1 ≤ width) (h2 : width ≤ 60) (ha : -(p2 (width - 1)) ≤ y) (hb : y < p2 (width - 1)) : signI (u64N y % 2 ^ width) width = y := by
  have e2 : 2 ^ width = 2 * 2 ^ (width - 1) := by rw [← Nat.pow_succ']; congr 1; omega
  have hd : (2 ^ width : Nat) ∣ 18446744073709551616 := by
    have := Nat.pow_dvd_pow 2 (show width ≤ 64 by omega)
    simpa using this
  have h64 : 2 ^ (width - 1) ≤ 2 ^ 59 := Nat.pow_le_pow_right (by decide) (by omega)
  obtain ⟨P, hP⟩ : ∃ P, 2 ^ (width - 1) = P := ⟨_, rfl⟩
  have hw : p2 width = 2 * (P : Int) := by unfold p2; rw [e2, hP]; omega
  have hw1 : p2 (width - 1) = (P : Int) := by unfold p2; rw [hP]
  obtain ⟨c, hc⟩ := hd
  have hu : u64N y % 2 ^ width = (y % (2 * (P : Int))).toNat := by
    have hPp : 0 < P := by rw [← hP]; exact Nat.pow_pos (by decide)
    have e3 : ((u64N y % 2 ^ width : Nat) : Int) = y % (2 * (P : Int)) := by
      unfold u64N
      rw [Int.natCast_emod, Int.toNat_of_nonneg (by omega)]
      have e4 : ((2 ^ width : Nat) : Int) = 2 * (P : Int) := by rw [e2, hP]; omega
      have e5 : (18446744073709551616 : Int) = (2 * (P : Int)) * (c : Int) := by rw [← e4, ← Int.natCast_mul, ← hc]; rfl
      rw [e4, e5, Int.emod_emod_of_dvd _ ⟨(c : Int), rfl⟩]
    omega
  rw [hw1] at ha hb
  unfold signI
  rw [hu, hP, hw]
  by_cases h0 : 0 ≤ y
  · rw [Int.emod_eq_of_lt h0 (by omega), if_pos (by omega)]; omega
  · have e6 : y % (2 * (P : Int)) = y + 2 * (P : Int) := by
      rw [← Int.add_emod_right, Int.emod_eq_of_lt (by omega) (by omega)]
    rw [e6, if_neg (by omega)]; omega
def wasY (ls : List Int) (m : Nat) : List Int := ls.map fun l => l.tmod (p2 m)
def wasX (ls : List Int) (m k : Nat) : List Int := ls.map fun l => l.tmod (p2 m) * p2 k
theorem tmod_bd (l : Int) (m : Nat) : -(p2 m) < l.tmod (p2 m) ∧ l.tmod (p2 m) < p2 m := by
  have hp := p2_pos m
  refine ⟨?_, Int.tmod_lt_of_pos _ hp⟩
  rcases Int.le_total 0 l with h | h
  · have := Int.tmod_nonneg (p2 m) h; omega
  · have h1 := Int.tmod_lt_of_pos (-l) hp
    rw [Int.neg_tmod] at h1; omega
theorem wasY_bd (ls : List Int) (m : Nat) : ∀ y ∈ wasY ls m, -(p2 m) < y ∧ y < p2 m := by
  intro y hy
  simp only [wasY, List.mem_map] at hy
  obtain ⟨l, _, rfl⟩ := hy
  exact tmod_bd l m
theorem p2_add (a b : Nat) : p2 (a + b) = p2 a * p2 b := by unfold p2; rw [Nat.pow_add, Int.natCast_mul]
theorem wasX_down (ls : List Int) (m k : Nat) (hk : k ≤ 32) : downI (wasX ls m k) k = wasY ls m := by
  unfold downI wasX wasY
  rw [List.map_map]
  apply List.map_congr_left
  intro l _
  have e : downBy (k : Int) = k := by unfold downBy; omega
  simp only [Function.comp, e]
  exact Int.mul_ediv_cancel _ (by have := p2_pos k; omega)
def wasS (k : Nat) : SubV := ⟨1, k, 0, 0, 0, none, [], 0, false, 0, none, [], 0⟩
theorem was_odd (ls : List Int) (d m k : Nat) (hd : d = m + k + 1) (hm : 1 ≤ m) (h4 : 4 ≤ d) (h33 : d ≤ 33) (h1 : 1 ≤ ls.length) (h2 : ls.length ≤ 65535) : oddI (wasX ls m k) (wasS k) d = 0 := by
  have hl : (wasX ls m k).length = ls.length := by simp [wasX]
  have hb : oddBad (wasX ls m k) (wasS k) d = false := by
    unfold oddBad
    rw [hl]
    have e1 : (wasS k).kind = 1 := rfl
    have e2 : (wasS k).wasted = (k : Int) := rfl
    rw [e1, e2]
    simp only [Bool.or_eq_false_iff, decide_eq_false_iff_not]
    omega
  have ha : (wasX ls m k).any (numBad (wasS k) d) = false := by
    rw [List.any_eq_false]
    intro x hx
    simp only [wasX, List.mem_map] at hx
    obtain ⟨l, _, rfl⟩ := hx
    have hp := p2_pos k
    have hpm := p2_pos m
    have ht := tmod_bd l m
    have e1 : (((d : Int) - 1)).toNat = m + k := by omega
    have e2 : l.tmod (p2 m) * p2 k / p2 k = l.tmod (p2 m) := Int.mul_ediv_cancel _ (by omega)
    have b1 : -(p2 m * p2 k) ≤ l.tmod (p2 m) * p2 k := by
      rw [← Int.neg_mul]; exact Int.mul_le_mul_of_nonneg_right (by omega) (by omega)
    have b2 : l.tmod (p2 m) * p2 k < p2 m * p2 k := Int.mul_lt_mul_of_pos_right ht.2 hp
    have hin : inDepth (l.tmod (p2 m) * p2 k) d = true := by
      unfold inDepth
      rw [e1, p2_add]
      simp only [Bool.and_eq_true, decide_eq_true_eq]
      omega
    unfold numBad
    simp only [wasS, Int.toNat_natCast, hin, e2]
    simp
  unfold oddI
  rw [hb, ha]; rfl
theorem was_bits (ls : List Int) (d m k : Nat) (hd : d = m + k + 1) (hm : 1 ≤ m) (h4 : 4 ≤ d) (h33 : d ≤ 33) (h1 : 1 ≤ ls.length) (h2 : ls.length ≤ 65535) : bitsI (wasX ls m k) (wasS k) d = (8 + (k : Int) + ((d : Int) - k) * ls.length, 0) := by
  have ho := was_odd ls d m k hd hm h4 h33 h1 h2
  have hl : (wasX ls m k).length = ls.length := by simp [wasX]
  unfold bitsI
  rw [ho, hl]
  rfl
/-- What was put: the beginning, and the numbers. -/
theorem was_put (ls : List Int) (d m k : Nat) (hd : d = m + k + 1) (h33 : d ≤ 33) : putBits (wasX ls m k) (wasS k) d = digits 1 7 ++ wasteBits k ++ allBits (m + 1) (wasY ls m) := by
  have hdn : downI (wasX ls m k) (wasS k).wasted = wasY ls m := wasX_down ls m k (by omega)
  unfold putBits
  rw [hdn]
  have e : wid ((d : Int) - (wasS k).wasted) = m + 1 := by unfold wid wasS; simp only; omega
  rw [e]
  rfl
theorem was_back (ls : List Int) (m k : Nat) (hm : 1 ≤ m) (hm2 : m ≤ 33) (bs r : List Bool) (hb : bs = digits 1 7 ++ wasteBits k ++ allBits (m + 1) (wasY ls m) ++ r) :
    (numsAt bs (8 + k) (m + 1) ls.length).map (fun y => y * p2 k) = wasX ls m k := by
  have hpl : (digits 1 7 ++ wasteBits k).length = 8 + k := by rw [List.length_append, digits_length, wasteBits_length]; omega
  have hyl : (wasY ls m).length = ls.length := by simp [wasY]
  have h := numsAt_all (digits 1 7 ++ wasteBits k) r (m + 1) (wasY ls m) ls.length (by omega)
  rw [hpl, ← hb] at h
  rw [h, List.take_of_length_le (by omega), List.map_map]
  unfold wasX wasY
  rw [List.map_map]
  apply List.map_congr_left
  intro l _
  have ht := tmod_bd l m
  simp only [Function.comp]
  rw [sign_back _ (m + 1) (by omega) (by omega) (by rw [Nat.add_sub_cancel]; omega) (by rw [Nat.add_sub_cancel]; omega)]
end Go.Proofs.Ytdpgojcljlfnbaa
