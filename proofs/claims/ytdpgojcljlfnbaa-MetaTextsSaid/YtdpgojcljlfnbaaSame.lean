/- Contracts of serinetteref01.Same and Ints. -/
import Derived.Test.YtdpgojcljlfnbaaPut
set_option linter.unusedVariables false
set_option linter.unusedSimpArgs false
set_option maxRecDepth 100000
namespace Go.Proofs.Ytdpgojcljlfnbaa
open Go.RowKit
open Go.Proofs.YtdpgojcljlfnbaaW.PrintWords

theorem take_eq_succ (xs ys : List Int) (k : Nat) (h1 : k < xs.length) (h2 : k < ys.length) : (xs.take (k + 1) = ys.take (k + 1)) ↔ (xs.take k = ys.take k ∧ xs.getD k 0 = ys.getD k 0) := by
  rw [List.take_succ_eq_append_getElem h1, List.take_succ_eq_append_getElem h2]
  constructor
  · intro h
    have h3 := List.append_inj h (by simp; omega)
    refine ⟨h3.1, ?_⟩
    have h4 := h3.2
    simp only [List.cons.injEq, and_true] at h4
    simpa [List.getD_eq_getElem?_getD, List.getElem?_eq_getElem h1, List.getElem?_eq_getElem h2] using h4
  · intro ⟨h3, h4⟩
    have h5 : xs[k] = ys[k] := by simpa [List.getD_eq_getElem?_getD, List.getElem?_eq_getElem h1, List.getElem?_eq_getElem h2] using h4
    rw [h3, h5]

theorem Same_any (A : Option Addr) (n c : Nat) (xs : List Int) (B : Option Addr) (m d : Nat) (ys : List Int) (w : World) (hx : ReadsInt w .u8 A n xs) (hy : ReadsInt w .u8 B m ys) :
    Calls Try.prog 19 #[.slice A n c, .slice B m d] w fun e w' => e = .returned (.bool (decide (xs = ys))) ∧ Below w.heap.size w w' := by
  have HX := Lib.hid hx; have HY := Lib.hid hy
  have hl := hx.1; have hl2 := hy.1
  have hm1 := hx.2.1
  clear hx hy
  subst hl; subst hl2
  by_cases hlen : xs.length = ys.length
  · have HLEN := Lib.hid hlen
    have hlb : ((xs.length : Int) != (ys.length : Int)) = false := by rw [hlen]; simp
    have h1 : xs.length ≤ ys.length := by omega
    clear hlen
    go_enter Try.func19, Try.ntmps19
    go_wp2
    go_loopw [5] (fun i wr => Hid (∃ j : Nat, j ≤ xs.length ∧ i = .int .i64 j ∧ xs.take j = ys.take j ∧ Below w.heap.size w wr)) (fun i _ => xs.length - (intOf i).toNat)
    case atStart => exact Lib.hid ⟨0, Nat.zero_le _, rfl, by simp, Below.refl _ _⟩
    case round =>
      obtain ⟨j, hj, rfl, heq, hb⟩ := hrel.out
      clear hrel
      have HEQ := Lib.hid heq
      clear heq
      by_cases hlt : j < xs.length
      · obtain ⟨ax, rfl, hcx⟩ := rd_nat (HX.out.below hb) hlt
        obtain ⟨ay, rfl, hcy⟩ := rd_nat (HY.out.below hb) (show j < ys.length by omega)
        have hlt2 : j < ys.length := by omega
        have hts := take_eq_succ xs ys j hlt hlt2
        obtain ⟨x, hx⟩ : ∃ x, xs.getD j 0 = x := ⟨_, rfl⟩
        obtain ⟨y, hy⟩ : ∃ y, ys.getD j 0 = y := ⟨_, rfl⟩
        rw [hx] at hcx hts
        rw [hy] at hcy hts
        have HTS := Lib.hid hts
        clear hts hx hy
        by_cases hxy : x = y
        · have HXY := Lib.hid hxy
          have hne : (x != y) = false := by rw [hxy]; simp
          clear hxy
          go_wp2
          go_quiet (fail)
          go_wp2
          go_roundw
          case rel => exact Lib.hid ⟨j + 1, by omega, by go_num, HTS.out.2 ⟨HEQ.out, HXY.out⟩, by first | exact hb | exact bt hb (bd _ _)⟩
          case measure => simp [intOf]; omega
        · have HV : Hid (decide (xs = ys) = false) := Lib.hid (decide_eq_false fun h => hxy (HTS.out.1 (by rw [h])).2)
          have hne : (x != y) = true := by rw [bne_iff_ne]; exact hxy
          clear hxy
          go_wp2
          go_quiet (fail)
          go_wp2
          go_ret
          exact ⟨ret_bool HV.out.symm, by first | exact hb | exact bt hb (bd _ _)⟩
      · have HV : Hid (decide (xs = ys) = true) := Lib.hid (decide_eq_true (by
          have h := HEQ.out
          rwa [List.take_of_length_le (by omega), List.take_of_length_le (by have := HLEN.out; omega)] at h))
        go_wp2
        go_ret
        exact ⟨ret_bool HV.out.symm, hb⟩
  · have HV : Hid (decide (xs = ys) = false) := Lib.hid (decide_eq_false fun h => hlen (by rw [h]))
    have hlb : ((xs.length : Int) != (ys.length : Int)) = true := by rw [bne_iff_ne]; omega
    clear hlen
    go_enter Try.func19, Try.ntmps19
    go_wp2
    go_ret
    exact ⟨ret_bool HV.out.symm, Below.refl _ _⟩

theorem Ints_any (A : Option Addr) (n c : Nat) (xs : List Int) (B : Option Addr) (m d : Nat) (ys : List Int) (w : World) (hx : ReadsInt w .i64 A n xs) (hy : ReadsInt w .i64 B m ys) :
    Calls Try.prog 48 #[.slice A n c, .slice B m d] w fun e w' => e = .returned (.bool (decide (xs = ys))) ∧ Below w.heap.size w w' := by
  have HX := Lib.hid hx; have HY := Lib.hid hy
  have hl := hx.1; have hl2 := hy.1
  have hm1 := hx.2.1
  clear hx hy
  subst hl; subst hl2
  by_cases hlen : xs.length = ys.length
  · have HLEN := Lib.hid hlen
    have hlb : ((xs.length : Int) != (ys.length : Int)) = false := by rw [hlen]; simp
    have h1 : xs.length ≤ ys.length := by omega
    clear hlen
    go_enter Try.func48, Try.ntmps48
    go_wp2
    go_loopw [5] (fun i wr => Hid (∃ j : Nat, j ≤ xs.length ∧ i = .int .i64 j ∧ xs.take j = ys.take j ∧ Below w.heap.size w wr)) (fun i _ => xs.length - (intOf i).toNat)
    case atStart => exact Lib.hid ⟨0, Nat.zero_le _, rfl, by simp, Below.refl _ _⟩
    case round =>
      obtain ⟨j, hj, rfl, heq, hb⟩ := hrel.out
      clear hrel
      have HEQ := Lib.hid heq
      clear heq
      by_cases hlt : j < xs.length
      · obtain ⟨ax, rfl, hcx⟩ := rd_nat (HX.out.below hb) hlt
        obtain ⟨ay, rfl, hcy⟩ := rd_nat (HY.out.below hb) (show j < ys.length by omega)
        have hlt2 : j < ys.length := by omega
        have hts := take_eq_succ xs ys j hlt hlt2
        obtain ⟨x, hx⟩ : ∃ x, xs.getD j 0 = x := ⟨_, rfl⟩
        obtain ⟨y, hy⟩ : ∃ y, ys.getD j 0 = y := ⟨_, rfl⟩
        rw [hx] at hcx hts
        rw [hy] at hcy hts
        have HTS := Lib.hid hts
        clear hts hx hy
        by_cases hxy : x = y
        · have HXY := Lib.hid hxy
          have hne : (x != y) = false := by rw [hxy]; simp
          clear hxy
          go_wp2
          go_quiet (fail)
          go_wp2
          go_roundw
          case rel => exact Lib.hid ⟨j + 1, by omega, by go_num, HTS.out.2 ⟨HEQ.out, HXY.out⟩, by first | exact hb | exact bt hb (bd _ _)⟩
          case measure => simp [intOf]; omega
        · have HV : Hid (decide (xs = ys) = false) := Lib.hid (decide_eq_false fun h => hxy (HTS.out.1 (by rw [h])).2)
          have hne : (x != y) = true := by rw [bne_iff_ne]; exact hxy
          clear hxy
          go_wp2
          go_quiet (fail)
          go_wp2
          go_ret
          exact ⟨ret_bool HV.out.symm, by first | exact hb | exact bt hb (bd _ _)⟩
      · have HV : Hid (decide (xs = ys) = true) := Lib.hid (decide_eq_true (by
          have h := HEQ.out
          rwa [List.take_of_length_le (by omega), List.take_of_length_le (by have := HLEN.out; omega)] at h))
        go_wp2
        go_ret
        exact ⟨ret_bool HV.out.symm, hb⟩
  · have HV : Hid (decide (xs = ys) = false) := Lib.hid (decide_eq_false fun h => hlen (by rw [h]))
    have hlb : ((xs.length : Int) != (ys.length : Int)) = true := by rw [bne_iff_ne]; omega
    clear hlen
    go_enter Try.func48, Try.ntmps48
    go_wp2
    go_ret
    exact ⟨ret_bool HV.out.symm, Below.refl _ _⟩
end Go.Proofs.Ytdpgojcljlfnbaa
