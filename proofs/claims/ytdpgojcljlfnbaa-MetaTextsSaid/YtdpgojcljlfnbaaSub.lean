/- Contracts of package subframe: order, odd, Rest; lists shorter than a million, numbers from -2^40 to 2^40. -/
import Derived.Test.YtdpgojcljlfnbaaLpc
set_option linter.unusedVariables false
set_option linter.unusedSimpArgs false
set_option maxRecDepth 100000
namespace Go.Proofs.Ytdpgojcljlfnbaa
open Go.RowKit
open Go.Proofs.YtdpgojcljlfnbaaW.PrintWords

theorem in_bd {n d : Int} (h : inDepth n d = true) : -2305843009213693952 ≤ n ∧ n < 2305843009213693952 := by
  unfold inDepth at h
  simp only [Bool.and_eq_true, decide_eq_true_eq] at h
  have h2 : p2 (d - 1).toNat ≤ 2305843009213693952 := by
    have h3 : 2 ^ (d - 1).toNat ≤ 2 ^ 61 := Nat.pow_le_pow_right (by decide) (by omega)
    unfold p2; omega
  omega
theorem shl_ok (x : Int) (k : Nat) (hk : k ≤ 60) (h1 : -2305843009213693952 ≤ x) (h2 : x < 2305843009213693952) : wrap64 (x / 2 ^ k * 2 ^ k) = x / p2 k * p2 k := by
  rw [p2_eq]
  have hp := p2_pos k
  have h3 : p2 k ≤ 1152921504606846976 := by
    have h3 : 2 ^ k ≤ 2 ^ 60 := Nat.pow_le_pow_right (by decide) hk
    unfold p2; omega
  have h4 := Int.mul_ediv_add_emod x (p2 k)
  have h5 := Int.emod_nonneg x (b := p2 k) (by omega)
  have h6 := Int.emod_lt_of_pos x hp
  rw [Int.mul_comm] at h4
  unfold wrap64
  omega
theorem In_same (n d : Int) (w : World) : Calls Try.prog 85 #[.int .i64 n, .int .i64 d] w fun e w' => e = .returned (.bool (inDepth n d)) ∧ w' = w := (In_any n d w).mono fun _ _ ⟨h, k⟩ => ⟨h, k.symm⟩

/-- A subframe: what its fields hold; where its factors and its parts lie. -/
structure SubV where
  kind : Int
  wasted : Int
  order : Int
  shift : Int
  prec : Int
  FA : Option Addr
  fs : List Int
  fc : Nat
  wide : Bool
  po : Int
  PA : Option Addr
  ps : List PartV
  pc : Nat
@[reducible] def subCells (s : SubV) : Array Value := #[.int .i64 s.kind, .int .i64 s.wasted, .int .i64 s.order, .int .i64 s.shift, .int .i64 s.prec, .slice s.FA s.fs.length s.fc, .bool s.wide, .int .i64 s.po, .slice s.PA s.ps.length s.pc]
@[reducible] def subVal (s : SubV) : Value := .agg (subCells s)
/-- The lists of a subframe are read. -/
structure SubR (w : World) (s : SubV) : Prop where
  f : ReadsInt w .i64 s.FA s.fs.length s.fs
  fc : s.fs.length ≤ s.fc
  p : ReadsC w s.PA (partCells s.ps)
  pl : s.ps.length ≤ 1000000000
theorem SubR.below {w w1 : World} {s : SubV} (h : SubR w s) (hb : Below w.heap.size w w1) : SubR w1 s := ⟨h.f.below hb, h.fc, h.p.below hb, h.pl⟩

def orderI (s : SubV) : Int := if s.kind = 2 then s.order else if s.kind = 3 then s.fs.length else 0
theorem order_any (s : SubV) (w : World) (hl : s.fs.length ≤ 9223372036854775807) : Calls Try.prog 53 #[subVal s] w fun e w' => e = .returned (.int .i64 (orderI s)) ∧ Below w.heap.size w w' := by
  by_cases h2 : s.kind = 2
  · have HV : Hid (orderI s = s.order) := Lib.hid (by unfold orderI; rw [if_pos h2])
    go_enter Try.func53, Try.ntmps53
    go_wp2
    go_ret
    exact ⟨ret_int HV.out.symm, ba _ _⟩
  · by_cases h3 : s.kind = 3
    · have HV : Hid (orderI s = s.fs.length) := Lib.hid (by unfold orderI; rw [if_neg h2, if_pos h3])
      go_enter Try.func53, Try.ntmps53
      go_wp2
      go_ret
      exact ⟨ret_int HV.out.symm, ba _ _⟩
    · have HV : Hid (orderI s = 0) := Lib.hid (by unfold orderI; rw [if_neg h2, if_neg h3])
      have h2b : (s.kind == 2) = false := by rw [beq_eq_false_iff_ne]; exact h2
      have h3b : (s.kind == 3) = false := by rw [beq_eq_false_iff_ne]; exact h3
      go_enter Try.func53, Try.ntmps53
      go_wp2
      go_ret
      exact ⟨ret_int HV.out.symm, ba _ _⟩

def oddBad (xs : List Int) (s : SubV) (depth : Int) : Bool := decide (xs.length < 1) || decide (65535 < xs.length) || decide (depth < 4) || decide (33 < depth) || decide (s.kind < 0) || decide (3 < s.kind) || decide (s.wasted < 0) || decide (depth ≤ s.wasted)
def numBad (s : SubV) (depth x : Int) : Bool := !inDepth x depth || decide (x / p2 s.wasted.toNat * p2 s.wasted.toNat ≠ x)
def oddI (xs : List Int) (s : SubV) (depth : Int) : Int := if oddBad xs s depth then 1 else if xs.any (numBad s depth) then 6 else 0

set_option maxHeartbeats 1000000 in
theorem odd_any (A : Option Addr) (n c : Nat) (xs : List Int) (s : SubV) (depth : Int) (w : World) (hr : ReadsInt w .i64 A n xs) :
    Calls Try.prog 49 #[.slice A n c, subVal s, .int .i64 depth] w fun e w' => e = .returned (.int .i64 (oddI xs s depth)) ∧ Below w.heap.size w w' := by
  have HR := Lib.hid hr
  have hl := hr.1
  have hm := hr.2.1
  clear hr
  subst hl
  by_cases hbad : oddBad xs s depth = true
  · have HV : Hid (oddI xs s depth = 1) := Lib.hid (by unfold oddI; rw [if_pos hbad])
    simp only [oddBad, Bool.or_eq_true, decide_eq_true_eq] at hbad
    go_enter Try.func49, Try.ntmps49
    go_wp2
    all_goals first
      | (go_ret; exact ⟨ret_int HV.out.symm, ba _ _⟩)
      | (exfalso; omega)
  · have HB : Hid (oddBad xs s depth = false) := Lib.hid (by simpa using hbad)
    simp only [oddBad, Bool.or_eq_true, decide_eq_true_eq, not_or] at hbad
    obtain ⟨⟨⟨⟨⟨⟨⟨b1, b2⟩, b3⟩, b4⟩, b5⟩, b6⟩, b7⟩, b8⟩ := hbad
    have b1' : decide (xs.length < 1) = false := decide_eq_false b1
    have b2' : decide (65535 < xs.length) = false := decide_eq_false b2
    have b3' : decide (depth < 4) = false := decide_eq_false b3
    have b4' : decide (33 < depth) = false := decide_eq_false b4
    have b5' : decide (s.kind < 0) = false := decide_eq_false b5
    have b6' : decide (3 < s.kind) = false := decide_eq_false b6
    have b7' : decide (s.wasted < 0) = false := decide_eq_false b7
    have hw0 : 0 ≤ s.wasted := by omega
    have hw1 : s.wasted ≤ 63 := by omega
    obtain ⟨W0, hW0⟩ : ∃ W0, w.alloc (Obj.cells (subCells s) 32) = W0 := ⟨_, rfl⟩
    have h01 : W0.cell? ⟨w.heap.size, 1, none⟩ = some (.int .i64 s.wasted) := by rw [← hW0]; simp [go_sem]
    have h00 : W0.cell? ⟨w.heap.size, 0, none⟩ = some (.int .i64 s.kind) := by rw [← hW0]; simp [go_sem]
    have hb0 : Below w.heap.size w W0 := by rw [← hW0]; exact ba _ _
    go_enter Try.func49, Try.ntmps49
    go_wp2
    go_loopw [50] (fun i wr => Hid (∃ (j : Nat), j ≤ xs.length ∧ i = .int .i64 j ∧ (xs.take j).any (numBad s depth) = false ∧ Below W0.heap.size W0 wr)) (fun i _ => xs.length - (intOf i).toNat)
    case atStart => exact Lib.hid ⟨0, Nat.zero_le _, rfl, rfl, Below.refl _ _⟩
    case round =>
      obtain ⟨j, hj, rfl, hany, hbr⟩ := hrel.out
      clear hrel
      have w01 : wr.cell? ⟨w.heap.size, 1, none⟩ = some (.int .i64 s.wasted) := pw_cell_below hbr h01
      have HANY := Lib.hid hany
      clear hany
      by_cases hlt : j < xs.length
      · obtain ⟨ad, rfl, hc⟩ := rd_nat ((HR.out.below hb0).below hbr) hlt
        have hts := any_take_succ (numBad s depth) xs j hlt
        have hmem := getD_mem xs j hlt
        obtain ⟨x, hx⟩ : ∃ x, xs.getD j 0 = x := ⟨_, rfl⟩
        rw [hx] at hc hts hmem
        have HTS := Lib.hid hts; have HMEM := Lib.hid hmem
        clear hts hmem hx
        cases hin : inDepth x depth
        · have HNB : Hid (numBad s depth x = true) := Lib.hid (by unfold numBad; rw [hin]; rfl)
          have HV : Hid (oddI xs s depth = 6) := Lib.hid (by
            unfold oddI
            rw [HB.out, List.any_eq_true.2 ⟨x, HMEM.out, HNB.out⟩]; rfl)
          have hIn : ∀ W : World, Calls Try.prog 85 #[.int .i64 x, .int .i64 depth] W fun e w' => e = .returned (.bool false) ∧ w' = W := fun W => by have := In_same x depth W; rwa [hin] at this
          have HIN := Lib.hid hIn
          clear hIn hin
          go_wp2
          go_quiet ((go_at_call 85; exact Calls.quiet_of_same (HIN.out _)))
          go_wp2
          go_ret
          exact ⟨ret_int HV.out.symm, bt hb0 (bt hbr (bd _ _))⟩
        · have hIn : ∀ W : World, Calls Try.prog 85 #[.int .i64 x, .int .i64 depth] W fun e w' => e = .returned (.bool true) ∧ w' = W := fun W => by have := In_same x depth W; rwa [hin] at this
          have HIN := Lib.hid hIn
          have hbd := in_bd hin
          have HIN2 := Lib.hid hin
          clear hIn hin
          go_wp2
          go_quiet ((go_at_call 85; exact Calls.quiet_of_same (HIN.out _)))
          go_wp2
          · have hne : (wrap64 (x / 2 ^ s.wasted.toNat * 2 ^ s.wasted.toNat) != x) = true := by assumption
            rw [shl_ok x s.wasted.toNat (by omega) hbd.1 hbd.2, bne_iff_ne] at hne
            have HNB : Hid (numBad s depth x = true) := Lib.hid (by unfold numBad; rw [HIN2.out, decide_eq_true hne]; rfl)
            have HV : Hid (oddI xs s depth = 6) := Lib.hid (by
              unfold oddI
              rw [HB.out, List.any_eq_true.2 ⟨x, HMEM.out, HNB.out⟩]; rfl)
            go_ret
            exact ⟨ret_int HV.out.symm, bt hb0 (bt hbr (bd _ _))⟩
          · have hne : (wrap64 (x / 2 ^ s.wasted.toNat * 2 ^ s.wasted.toNat) != x) = false := by assumption
            rw [shl_ok x s.wasted.toNat (by omega) hbd.1 hbd.2, bne_eq_false_iff_eq] at hne
            have hnb : numBad s depth x = false := by unfold numBad; rw [HIN2.out, decide_eq_false (by simpa using hne)]; rfl
            go_roundw
            case rel => exact Lib.hid ⟨j + 1, by omega, by go_num, by rw [HTS.out, HANY.out, hnb]; rfl, bt hbr (bd _ _)⟩
            case measure => simp [intOf]; omega
      · obtain rfl : j = xs.length := by omega
        have HV : Hid (oddI xs s depth = 0) := Lib.hid (by
          unfold oddI
          have h := HANY.out
          rw [List.take_length] at h
          rw [HB.out, h]; rfl)
        go_wp2
        go_ret
        exact ⟨ret_int HV.out.symm, bt hb0 hbr⟩

end Go.Proofs.Ytdpgojcljlfnbaa
