/- Contracts of functions that the law reaches: Base, Scal, List, Cost, Cuts, Step. -/
import Derived.Test.YtdpgojcljlfnbaaRows
import Derived.WalkKit
import Derived.WalkSpells
import Derived.WalkLawsBesides
import Derived.BigQuiet
import Derived.Deep.QuietTactic
import Derived.Deep.LoopGhost
import Derived.Deep.DeepCutAuto
import Derived.Deep.RegionLaw
import Derived.ScopeJumps
import Derived.Lib.Hide
import Derived.Laws.Bits64
import Derived.Test.YtdpgojcljlfnbaaWWords
section
/- Words and small laws that the walks of this seat share; no condition. -/
set_option linter.unusedVariables false
set_option linter.unusedSimpArgs false
namespace Go.Proofs.Ytdpgojcljlfnbaa
open Go.RowKit
open Go.Proofs.YtdpgojcljlfnbaaW.PrintWords

theorem info_int : (Try.prog.info? 3).map (fun i => (i.zero, i.size, i.bytes)) = some (some (.int .i64 0), 1, 8) := by kernel_rfl
theorem info_u8 : (Try.prog.info? 5).map (fun i => (i.zero, i.size, i.bytes)) = some (some (.int .u8 0), 1, 1) := by kernel_rfl
theorem ret_int {k : IntKind} {a b : Int} (h : a = b) : Ending.returned (.int k a) = .returned (.int k b) := by rw [h]
theorem ret_two {k k' : IntKind} {a b c d : Int} (h : a = b) (h' : c = d) : Ending.returned (.tuple #[.int k a, .int k' c]) = .returned (.tuple #[.int k b, .int k' d]) := by rw [h, h']
theorem ret_bool {a b : Bool} (h : a = b) : Ending.returned (.bool a) = .returned (.bool b) := by rw [h]

theorem bt {w w1 w2 : World} (h : Below w.heap.size w w1) (k : Below w1.heap.size w1 w2) : Below w.heap.size w w2 := h.trans (k.mono h.size)
theorem ba (w : World) (o : Obj) : Below w.heap.size w (w.alloc o) := below_alloc (Below.refl _ _) o
theorem bd (w : World) (n : Nat) : Below w.heap.size w (w.drewN n) := pw_below_drewN (Below.refl _ _) n
theorem bd1 (w : World) : Below w.heap.size w w.drew := below_drew (Below.refl _ _)
theorem bcell {W w1 : World} (hb : Below W.heap.size W w1) : (∀ b o, b < W.heap.size → w1.cell? ⟨b, o, none⟩ = W.cell? ⟨b, o, none⟩) ∧ (∀ b o, b < W.heap.size → w1.frozen? ⟨b, o, none⟩ = W.frozen? ⟨b, o, none⟩) :=
  ⟨fun b o h => hb.cell (p := ⟨b, o, none⟩) h, fun b o h => hb.frozen (p := ⟨b, o, none⟩) h⟩

/-- 2 to a number, as an Int. -/
def p2 (k : Nat) : Int := ((2 ^ k : Nat) : Int)
theorem p2_pos (k : Nat) : 0 < p2 k := by unfold p2; have := Nat.pow_pos (n := k) (show 0 < 2 by decide); omega
theorem p2_succ (k : Nat) : p2 (k + 1) = 2 * p2 k := by unfold p2; rw [Nat.pow_succ]; omega
theorem p2_eq (k : Nat) : ((2 : Int) ^ k) = p2 k := by unfold p2; simp
/-- Is a number in a depth? -/
def inDepth (n d : Int) : Bool := decide (1 ≤ d) && decide (d ≤ 62) && decide (-(p2 (d - 1).toNat) ≤ n) && decide (n < p2 (d - 1).toNat)
def foldI (n : Int) : Int := if 0 ≤ n then 2 * n else -2 * n - 1
def heldI (k : Int) : Int := max 0 (min k 30)
theorem held_le (k : Int) : 0 ≤ heldI k ∧ heldI k ≤ 30 := by unfold heldI; omega
theorem div_p2_zero (n : Int) (k : Nat) : n / p2 k = 0 ↔ 0 ≤ n ∧ n < p2 k := by
  have hp := p2_pos k
  constructor
  · intro h
    have h1 := Int.mul_ediv_add_emod n (p2 k)
    have h2 := Int.emod_nonneg n (b := p2 k) (by omega)
    have h3 := Int.emod_lt_of_pos n hp
    rw [h] at h1; omega
  · intro ⟨h1, h2⟩; exact Int.ediv_eq_zero_of_lt h1 h2
theorem div_p2_neg (n : Int) (k : Nat) : n / p2 k = -1 ↔ -(p2 k) ≤ n ∧ n < 0 := by
  have hp := p2_pos k
  have h1 := Int.mul_ediv_add_emod n (p2 k)
  have h2 := Int.emod_nonneg n (b := p2 k) (by omega)
  have h3 := Int.emod_lt_of_pos n hp
  constructor
  · intro h; rw [h] at h1; omega
  · intro ⟨ha, hb⟩
    have hc : (n + p2 k) / p2 k = 0 := Int.ediv_eq_zero_of_lt (by omega) (by omega)
    rw [Int.add_ediv_of_dvd_right (Int.dvd_refl _), Int.ediv_self (by omega)] at hc
    omega
theorem in_of (n d : Int) (h1 : 1 ≤ d) (h2 : d ≤ 62) : inDepth n d = (n / 2 ^ (d.toNat - 1) == 0 || n / 2 ^ (d.toNat - 1) == -1) := by
  have e : (d - 1).toNat = d.toNat - 1 := by omega
  rw [p2_eq, Bool.eq_iff_iff]
  simp only [inDepth, Bool.and_eq_true, decide_eq_true_eq, Bool.or_eq_true, beq_iff_eq, div_p2_zero, div_p2_neg, e]
  have := p2_pos (d.toNat - 1)
  omega
theorem fold_of (n : Int) (h1 : -9223372036854775808 ≤ n) (h2 : n ≤ 9223372036854775807) : bits BinOp.xor IntKind.u64 (IntKind.u64.wrap (IntKind.u64.wrap n * 2)) (IntKind.u64.wrap (n / 9223372036854775808)) = foldI n := by
  rw [IntKind.wrap_u64, IntKind.wrap_u64, IntKind.wrap_u64]
  unfold foldI
  by_cases h : 0 ≤ n
  · rw [if_pos h]
    have e1 : n % 18446744073709551616 * 2 % 18446744073709551616 = ((2 * n).toNat : Int) := by omega
    have e2 : n / 9223372036854775808 % 18446744073709551616 = ((0 : Nat) : Int) := by omega
    rw [e1, e2, bits_xor_u64_nat _ _ (by omega) (by omega)]
    simp; omega
  · rw [if_neg h]
    obtain ⟨m, hm⟩ : ∃ m : Nat, n = -(m : Int) - 1 := ⟨(-n - 1).toNat, by omega⟩
    have e1 : n % 18446744073709551616 * 2 % 18446744073709551616 = ((18446744073709551615 - (2 * m + 1) : Nat) : Int) := by omega
    have e2 : n / 9223372036854775808 % 18446744073709551616 = ((18446744073709551615 : Nat) : Int) := by omega
    rw [e1, e2, bits_xor_u64_nat _ _ (by omega) (by omega)]
    have hx : ∀ a : Nat, a < 18446744073709551616 → (18446744073709551615 - a) ^^^ 18446744073709551615 = a := by
      intro a ha
      apply Nat.eq_of_testBit_eq
      intro i
      rw [Nat.testBit_xor, show (18446744073709551615 : Nat) = 2 ^ 64 - 1 from rfl, Nat.testBit_two_pow_sub_one, show 2 ^ 64 - 1 - a = 2 ^ 64 - (a + 1) from by omega, Nat.testBit_two_pow_sub_succ (by omega)]
      by_cases hi : i < 64
      · simp [hi]
      · simp [hi]
        exact Nat.testBit_lt_two_pow (Nat.lt_of_lt_of_le ha (Nat.pow_le_pow_right (by decide : 2 > 0) (show 64 ≤ i by omega)))
    rw [hx _ (by omega)]
    omega
end Go.Proofs.Ytdpgojcljlfnbaa
end
section
/- Contracts of the functions that only reckon with numbers; no condition but the numbers' kinds. -/
set_option linter.unusedVariables false
set_option linter.unusedSimpArgs false
set_option maxRecDepth 100000
namespace Go.Proofs.Ytdpgojcljlfnbaa
open Go.RowKit
open Go.Proofs.YtdpgojcljlfnbaaW.PrintWords

theorem held_any (n : Int) (w : World) : Calls Try.prog 114 #[.int .i64 n] w fun e w' => e = .returned (.int .i64 (max 0 (min n 64))) ∧ w = w' := by
  go_enter Try.func114, Try.ntmps114
  go_wp2
  all_goals (go_ret; exact ⟨ret_int (by omega), rfl⟩)

theorem In_any (n d : Int) (w : World) : Calls Try.prog 85 #[.int .i64 n, .int .i64 d] w fun e w' => e = .returned (.bool (inDepth n d)) ∧ w = w' := by
  by_cases h1 : d < 1
  · have hf : inDepth n d = false := by unfold inDepth; rw [decide_eq_false (by omega)]; simp
    have HF := Lib.hid hf; clear hf
    go_enter Try.func85, Try.ntmps85
    go_wp2
    go_ret
    exact ⟨ret_bool HF.out.symm, rfl⟩
  by_cases h2 : 62 < d
  · have hf : inDepth n d = false := by unfold inDepth; rw [decide_eq_false (p := d ≤ 62) (by omega)]; simp
    have HF := Lib.hid hf; clear hf
    go_enter Try.func85, Try.ntmps85
    go_wp2
    go_ret
    exact ⟨ret_bool HF.out.symm, rfl⟩
  have HF := Lib.hid (in_of n d (by omega) (by omega))
  go_enter Try.func85, Try.ntmps85
  go_wp2
  all_goals (go_ret; refine ⟨ret_bool ?_, rfl⟩; rw [HF.out]; try (first | rfl | simp [*]))

theorem Fold_any (n : Int) (w : World) (h1 : -9223372036854775808 ≤ n) (h2 : n ≤ 9223372036854775807) : Calls Try.prog 141 #[.int .i64 n] w fun e w' => e = .returned (.int .u64 (foldI n)) ∧ w = w' := by
  have HF := Lib.hid (fold_of n h1 h2)
  clear h1 h2
  go_enter Try.func141, Try.ntmps141
  go_wp2
  go_ret
  exact ⟨ret_int HF.out, rfl⟩

theorem rheld_any (n : Int) (w : World) : Calls Try.prog 142 #[.int .i64 n] w fun e w' => e = .returned (.int .i64 (heldI n)) ∧ w = w' := by
  go_enter Try.func142, Try.ntmps142
  go_wp2
  all_goals (go_ret; exact ⟨ret_int (by unfold heldI; omega), rfl⟩)

def nearB (n : Int) : Bool := decide (-8589934592 ≤ n) && decide (n < 8589934592)
theorem Near_any (n : Int) (w : World) : Calls Try.prog 143 #[.int .i64 n] w fun e w' => e = .returned (.bool (nearB n)) ∧ w = w' := by
  go_enter Try.func143, Try.ntmps143
  go_wp2
  all_goals (go_ret; exact ⟨ret_bool (by unfold nearB; simp [*] <;> omega), rfl⟩)

def wideB (n : Int) : Bool := decide (n ≤ -2147483648) || decide (2147483648 ≤ n)
theorem wide_any (n : Int) (w : World) : Calls Try.prog 89 #[.int .i64 n] w fun e w' => e = .returned (.bool (wideB n)) ∧ w = w' := by
  go_enter Try.func89, Try.ntmps89
  go_wp2
  all_goals (go_ret; exact ⟨ret_bool (by unfold wideB; simp [*] <;> omega), rfl⟩)

theorem far_any (n : Int) (w : World) : Calls Try.prog 151 #[.int .i64 n] w fun e w' => e = .returned (.bool (!nearB n)) ∧ w = w' := by
  go_enter Try.func151, Try.ntmps151
  go_wp2_with (go_at_call 143; refine (Near_any _ _).mono ?_; rintro e w' ⟨rfl, rfl⟩)
  go_ret
  exact ⟨rfl, rfl⟩

/-- How many bits a number has by a k, as it is reckoned. -/
def sizeI (n k : Int) : Int := if nearB n then foldI n / p2 (heldI k).toNat + 1 + heldI k else -1
theorem Size_any (n k : Int) (w : World) : Calls Try.prog 152 #[.int .i64 n, .int .i64 k] w fun e w' => e = .returned (.int .i64 (sizeI n k)) ∧ w = w' := by
  cases hN : nearB n
  · have HN := Lib.hid hN; clear hN
    go_enter Try.func152, Try.ntmps152
    go_wp2_with (go_at_call 143; refine (Near_any _ _).mono ?_; rintro e w' ⟨rfl, rfl⟩; rw [HN.out])
    go_ret
    exact ⟨ret_int (by unfold sizeI; rw [HN.out]; rfl), rfl⟩
  · have h0 : -8589934592 ≤ n ∧ n < 8589934592 := by unfold nearB at hN; simpa using hN
    have HN := Lib.hid hN; clear hN
    obtain ⟨h1, h2⟩ := h0
    have hk := held_le k
    obtain ⟨q, hq⟩ : ∃ q, heldI k = q := ⟨_, rfl⟩
    obtain ⟨u, hu⟩ : ∃ u, foldI n = u := ⟨_, rfl⟩
    have hu1 : 0 ≤ u ∧ u ≤ 17179869183 := by subst hu; unfold foldI; split <;> omega
    have HQ := Lib.hid hq; have HU := Lib.hid hu
    rw [hq] at hk
    clear hq hu
    obtain ⟨hk1, hk2⟩ := hk
    obtain ⟨hu1, hu2⟩ := hu1
    have hm1 : 0 ≤ u / 2 ^ q.toNat := Int.ediv_nonneg hu1 (by rw [p2_eq]; exact Int.le_of_lt (p2_pos _))
    have hm2 : u / 2 ^ q.toNat ≤ u := Int.ediv_le_self _ hu1
    go_enter Try.func152, Try.ntmps152
    go_wp2_with (first | (go_at_call 143; refine (Near_any _ _).mono ?_; rintro e w' ⟨rfl, rfl⟩; rw [HN.out]) | (go_at_call 142; refine (rheld_any _ _).mono ?_; rintro e w' ⟨rfl, rfl⟩; rw [HQ.out]) | (go_at_call 141; refine (Fold_any _ _ (by omega) (by omega)).mono ?_; rintro e w' ⟨rfl, rfl⟩; rw [HU.out]))
    go_ret
    exact ⟨ret_int (by unfold sizeI; rw [HN.out, HQ.out, HU.out]; simp [p2_eq]), rfl⟩
theorem raw_any (A : Option Addr) (n : Nat) (c : Nat) (wd : Int) (w : World) : Calls Try.prog 128 #[.slice A n c, .int .i64 wd] w fun e w' => e = .returned (.int .i64 (wrap64 (5 + wrap64 (wd * n)))) ∧ w = w' := by
  go_enter Try.func128, Try.ntmps128
  go_wp2
  go_ret
  exact ⟨rfl, rfl⟩
def mostI (wide : Bool) : Int := if wide then 30 else 14
def sizeK (wide : Bool) : Int := if wide then 5 else 4
theorem top_any (b : Bool) (w : World) : Calls Try.prog 91 #[.bool b] w fun e w' => e = .returned (.tuple #[.int .i64 (mostI b), .int .i64 (sizeK b)]) ∧ w = w' := by
  cases b
  all_goals
    go_enter Try.func91, Try.ntmps91
    go_wp2
    go_ret2
    exact ⟨rfl, rfl⟩

end Go.Proofs.Ytdpgojcljlfnbaa
end
section
/- Contracts of the library's functions on lists of numbers: Clone, IndexFunc, ContainsFunc; no condition but that the list is read. -/
set_option linter.unusedVariables false
set_option linter.unusedSimpArgs false
set_option maxRecDepth 100000
namespace Go.Proofs.Ytdpgojcljlfnbaa
open Go.RowKit
open Go.Proofs.YtdpgojcljlfnbaaW.PrintWords

theorem rd_nat {w : World} {kd : IntKind} {A : Option Addr} {n : Nat} {xs : List Int} (h : ReadsInt w kd A n xs) {k : Nat} (hk : k < n) : ∃ ad, A = some ad ∧ w.cell? (ad.add k) = some (.int kd (xs.getD k 0)) := by
  obtain ⟨ad, e, hc⟩ := h.2.2 (by omega)
  exact ⟨ad, e, hc k hk⟩
theorem any_take_succ (p : Int → Bool) (xs : List Int) (k : Nat) (hk : k < xs.length) : (xs.take (k + 1)).any p = ((xs.take k).any p || p (xs.getD k 0)) := by
  rw [List.take_succ_eq_append_getElem hk, List.any_append]
  simp [List.getD_eq_getElem?_getD, List.getElem?_eq_getElem hk]
theorem getD_mem (xs : List Int) (k : Nat) (hk : k < xs.length) : xs.getD k 0 ∈ xs := by
  simp [List.getD_eq_getElem?_getD, List.getElem?_eq_getElem hk]

/-- Where the first number is of which p holds; -1: nowhere. -/
def idxOf (p : Int → Bool) : List Int → Int
  | [] => -1
  | x :: xs => if p x then 0 else (if idxOf p xs < 0 then -1 else idxOf p xs + 1)

theorem IndexFunc_any (A : Option Addr) (n c : Nat) (xs : List Int) (f : Nat) (fst cap : Array Value) (p : Int → Bool) (w : World) (hr : ReadsInt w .i64 A n xs)
    (eg : ∀ args w, (callFunc f args).run Try.prog w = .ok (.enter f args) w)
    (hp : ∀ W, Below w.heap.size w W → ∀ x, x ∈ xs → Calls Try.prog f (fst.push (.int .i64 x) ++ cap) W fun e W' => e = .returned (.bool (p x)) ∧ Below W.heap.size W W') :
    Calls Try.prog 125 #[.slice A n c, .func (.func f) fst cap] w fun e w' => ∃ r : Int, e = .returned (.int .i64 r) ∧ (r < 0 → xs.any p = false) ∧ (0 ≤ r → xs.any p = true) ∧ Below w.heap.size w w' := by
  have HP := Lib.hid hp
  clear hp
  have HR := Lib.hid hr
  obtain ⟨hl, hm, _⟩ := hr
  have hn : n ≤ 9223372036854775807 := hm
  clear hm
  subst hl
  go_enter Try.func125, Try.ntmps125
  go_wp2
  go_loopw [8] (fun i wr => ∃ k : Nat, k ≤ xs.length ∧ i = .int .i64 k ∧ Below w.heap.size w wr ∧ Hid ((xs.take k).any p = false)) (fun i _ => xs.length - (intOf i).toNat)
  case atStart => exact ⟨0, Nat.zero_le _, rfl, Below.refl _ _, Lib.hid (by simp)⟩
  case round =>
    obtain ⟨k, hk, rfl, hb, hno⟩ := hrel
    by_cases hlt : k < xs.length
    · obtain ⟨ad, rfl, hc⟩ := rd_nat (HR.out.below hb) hlt
      have hmem := getD_mem xs k hlt
      have hts := any_take_succ p xs k hlt
      obtain ⟨x, hx⟩ : ∃ x, xs.getD k 0 = x := ⟨_, rfl⟩
      rw [hx] at hc hmem hts
      have hcall := Lib.hid (HP.out wr hb _ hmem)
      have hany : p x = true → xs.any p = true := fun h => List.any_eq_true.2 ⟨_, hmem, h⟩
      have HANY := Lib.hid hany; have HTS := Lib.hid hts
      clear hany hmem hx hts
      cases hp : p x
      · rw [hp] at hcall
        have HPK := Lib.hid hp; clear hp
        go_wp2
        refine hcall.out.mono ?_
        rintro e w1 ⟨rfl, hb1⟩
        go_wp2
        go_roundw
        case rel => exact ⟨k + 1, by omega, by go_num, hb.trans (hb1.mono hb.size), Lib.hid (by rw [HTS.out, hno.out, HPK.out]; rfl)⟩
        case measure => simp [intOf]; omega
      · rw [hp] at hcall
        have HA := Lib.hid (HANY.out hp); clear hp
        go_wp2
        refine hcall.out.mono ?_
        rintro e w1 ⟨rfl, hb1⟩
        go_wp2
        go_ret
        exact ⟨k, rfl, fun h => by omega, fun _ => HA.out, hb.trans (hb1.mono hb.size)⟩
    · go_wp2
      go_ret
      refine ⟨-1, rfl, fun _ => ?_, fun h => by omega, hb⟩
      have := hno.out
      rwa [List.take_of_length_le (by omega)] at this

theorem ContainsFunc_any (A : Option Addr) (n c : Nat) (xs : List Int) (f : Nat) (fst cap : Array Value) (p : Int → Bool) (w : World) (hr : ReadsInt w .i64 A n xs)
    (eg : ∀ args w, (callFunc f args).run Try.prog w = .ok (.enter f args) w)
    (hp : ∀ W, Below w.heap.size w W → ∀ x, x ∈ xs → Calls Try.prog f (fst.push (.int .i64 x) ++ cap) W fun e W' => e = .returned (.bool (p x)) ∧ Below W.heap.size W W') :
    Calls Try.prog 88 #[.slice A n c, .func (.func f) fst cap] w fun e w' => e = .returned (.bool (xs.any p)) ∧ Below w.heap.size w w' := by
  have HC := Lib.hid (IndexFunc_any A n c xs f fst cap p w hr eg hp)
  clear hr hp eg
  go_enter Try.func88, Try.ntmps88
  go_wp2_with (go_at_call 125; refine HC.out.mono ?_; rintro e w1 ⟨r, rfl, h1, h2, hb⟩; have H1 := Lib.hid h1; have H2 := Lib.hid h2; clear h1 h2)
  go_ret
  refine ⟨ret_bool ?_, hb⟩
  by_cases hr : 0 ≤ r
  · rw [H2.out hr]; simpa using hr
  · rw [H1.out (by omega)]; simpa using hr

/-- A list of the call's own: type e's element, kind kd. -/
def OwnI (w : World) (base e : Nat) (kd : IntKind) (v : Value) (xs : List Int) : Prop := w.ownsRow base e 1 v xs.length (nums kd xs)

theorem Clone_any (A : Option Addr) (n c : Nat) (xs : List Int) (w : World) (hr : ReadsInt w .i64 A n xs) (hn : n ≤ 17592186044416) :
    Calls Try.prog 52 #[.slice A n c] w fun e w' => ∃ v, e = .returned v ∧ OwnI w' w.heap.size 3 .i64 v xs ∧ Below w.heap.size w w' := by
  have HR := Lib.hid hr
  have qT : ∀ (w : World) (a : Option Addr) (n c n' c' : Nat), (binOp .eql 27 (.slice a n c) (.slice none n' c')).run Try.prog w = .ok (.bool a.isNone) w := fun w a n c n' c' => Lib.run_eql_slice_nil w _ _ a n c n' c' Try.underlying27
  have hl := hr.1
  rcases A with _ | ad
  · have h0 : n = 0 := by
      rcases Nat.eq_zero_or_pos n with h | h
      · exact h
      · obtain ⟨ad, h, _⟩ := hr.2.2 h; cases h
    subst h0
    obtain rfl : xs = [] := List.eq_nil_of_length_eq_zero hl
    clear hr hl
    go_enter Try.func52, Try.ntmps52
    go_wp2
    go_ret
    exact ⟨_, rfl, own_nil _ _ _ _, Below.refl _ _⟩
  clear hr
  go_enter Try.func52, Try.ntmps52
  go_wp2_with (at_builtin; refine print_append_row (w0 := w) w.heap.size rfl (.tmp 5) (.tmp 6) 27 3 .i64 8 rfl Try.underlying27 info_int (by decide) _ [] xs (some ad) n c rfl rfl (own_lit w _ 3 .i64 [] (Nat.le_refl _) (by simp)) (HR.out.below (below_alloc (Below.refl _ _) _)) (below_alloc (Below.refl _ _) _) (by simp) (by simp; omega) ?_; rintro v1 w1 hown hb hg hat)
  go_ret
  exact ⟨_, rfl, by unfold OwnI; simpa using hown, hb⟩
end Go.Proofs.Ytdpgojcljlfnbaa
end
section
/- Contracts of package cost: how many bits a part has, its width; the lists shorter than a million. -/
set_option linter.unusedVariables false
set_option linter.unusedSimpArgs false
set_option maxRecDepth 100000
namespace Go.Proofs.Ytdpgojcljlfnbaa
open Go.RowKit
open Go.Proofs.YtdpgojcljlfnbaaW.PrintWords

theorem sizeI_bd (n k : Int) (h : nearB n = true) : 0 ≤ sizeI n k ∧ sizeI n k ≤ 17179869300 := by
  have h0 : -8589934592 ≤ n ∧ n < 8589934592 := by unfold nearB at h; simpa using h
  have hk := held_le k
  have h1 : 0 ≤ foldI n ∧ foldI n ≤ 17179869183 := by unfold foldI; split <;> omega
  have h2 : 0 ≤ foldI n / p2 (heldI k).toNat := Int.ediv_nonneg h1.1 (Int.le_of_lt (p2_pos _))
  have h3 : foldI n / p2 (heldI k).toNat ≤ foldI n := Int.ediv_le_self _ h1.1
  unfold sizeI
  rw [h]; simp only [if_true]
  omega

/-- The bits of all numbers by a k. -/
def sumI (k : Int) : List Int → Int
  | [] => 0
  | x :: xs => sizeI x k + sumI k xs
theorem sumI_append (k : Int) (a b : List Int) : sumI k (a ++ b) = sumI k a + sumI k b := by
  induction a with
  | nil => simp [sumI]
  | cons x a ih => simp only [List.cons_append, sumI, ih]; omega
theorem sumI_bd (k : Int) (xs : List Int) (h : xs.any (fun x => !nearB x) = false) : 0 ≤ sumI k xs ∧ sumI k xs ≤ 17179869300 * xs.length := by
  induction xs with
  | nil => simp [sumI]
  | cons x a ih =>
    simp only [List.any_cons, Bool.or_eq_false_iff] at h
    have h1 := sizeI_bd x k (by simpa using h.1)
    have h2 := ih h.2
    simp only [sumI, List.length_cons]
    omega
def costB (xs : List Int) (k : Int) : Int := if xs.any (fun x => !nearB x) then -1 else sumI k xs

theorem take_snoc_getD (xs : List Int) (k : Nat) (h : k < xs.length) : xs.take (k + 1) = xs.take k ++ [xs.getD k 0] := by
  rw [List.take_succ_eq_append_getElem h]
  simp [List.getD_eq_getElem?_getD, List.getElem?_eq_getElem h]
theorem any_take_false (p : Int → Bool) (xs : List Int) (k : Nat) (h : xs.any p = false) : (xs.take k).any p = false := by
  rw [List.any_eq_false] at *
  exact fun x hx => h x (List.mem_of_mem_take hx)

theorem far_contains (A : Option Addr) (n c : Nat) (xs : List Int) (w : World) (hr : ReadsInt w .i64 A n xs) :
    Calls Try.prog 88 #[.slice A n c, .func (.func 151) #[] #[]] w fun e w' => e = .returned (.bool (xs.any fun x => !nearB x)) ∧ Below w.heap.size w w' :=
  ContainsFunc_any A n c xs 151 #[] #[] (fun x => !nearB x) w hr (fun _ _ => by kernel_rfl) (fun W _ x _ => (far_any x W).mono fun e w' ⟨he, hw⟩ => ⟨he, hw ▸ Below.refl _ _⟩)

theorem costBits_any (A : Option Addr) (n c : Nat) (xs : List Int) (k : Int) (w : World) (hr : ReadsInt w .i64 A n xs) (hn : n ≤ 1000000) :
    Calls Try.prog 127 #[.slice A n c, .int .i64 k] w fun e w' => e = .returned (.int .i64 (costB xs k)) ∧ Below w.heap.size w w' := by
  have HR := Lib.hid hr
  have hl := hr.1
  clear hr
  cases hf : xs.any fun x => !nearB x
  · have HCB : costB xs k = sumI k xs := by unfold costB; rw [hf]; rfl
    have HF := Lib.hid hf; clear hf
    have HC := Lib.hid HCB; clear HCB
    have HL := Lib.hid hl; clear hl
    go_enter Try.func127, Try.ntmps127
    go_wp2_with (go_at_call 88; refine (far_contains _ _ _ xs _ HR.out).mono ?_; rintro e w1 ⟨rfl, hb⟩; rw [HF.out])
    go_loop [5, 12] (fun s i => ∃ j : Nat, j ≤ n ∧ i = .int .i64 j ∧ s = .int .i64 (sumI k (xs.take j))) (fun _ i => n - (intOf i).toNat)
    case atStart => exact ⟨0, Nat.zero_le _, rfl, rfl⟩
    case round =>
      obtain ⟨j, hj, rfl, rfl⟩ := hrel
      by_cases hlt : j < n
      · obtain ⟨ad, rfl, hc⟩ := rd_nat (HR.out.below hb) hlt
        have hts := take_snoc_getD xs j (by rw [HL.out]; exact hlt)
        have hmem := getD_mem xs j (by rw [HL.out]; exact hlt)
        obtain ⟨x, hx⟩ : ∃ x, xs.getD j 0 = x := ⟨_, rfl⟩
        rw [hx] at hc hts hmem
        have hs := sumI_bd k (xs.take j) (any_take_false _ _ _ HF.out)
        have hln : (xs.take j).length ≤ 1000000 := by rw [List.length_take, HL.out]; omega
        have hnx : nearB x = true := by have := (List.any_eq_false.1 HF.out) x hmem; simpa using this
        have hz := sizeI_bd x k hnx
        obtain ⟨s, hs'⟩ : ∃ s, sumI k (xs.take j) = s := ⟨_, rfl⟩
        obtain ⟨z, hz'⟩ : ∃ z, sizeI x k = z := ⟨_, rfl⟩
        rw [hs'] at hs ⊢
        rw [hz'] at hz
        have HS : Hid (sumI k (xs.take (j + 1)) = s + z) := Lib.hid (by rw [hts, sumI_append, hs']; simp [sumI, hz'])
        have HZ := Lib.hid hz'
        have hs1 : 0 ≤ s ∧ s ≤ 17179869300000000 := by omega
        obtain ⟨hs1, hs2⟩ := hs1
        obtain ⟨hz1, hz2⟩ := hz
        clear hs hs' hz' hts hmem hx hnx hln
        go_wp2_with (go_at_call 152; refine (Size_any _ _ _).mono ?_; rintro e w' ⟨rfl, rfl⟩; rw [HZ.out])
        go_round
        case rel => exact ⟨j + 1, by omega, by go_num, by rw [HS.out]⟩
        case measure => simp [intOf]; omega
      · go_wp2
        go_ret
        exact ⟨ret_int (by rw [HC.out, List.take_of_length_le (by rw [HL.out]; omega)]), hb⟩
  · have HCB : costB xs k = -1 := by unfold costB; rw [hf]; rfl
    have HF := Lib.hid hf; clear hf
    have HC := Lib.hid HCB; clear HCB
    go_enter Try.func127, Try.ntmps127
    go_wp2_with (go_at_call 88; refine (far_contains _ _ _ xs _ HR.out).mono ?_; rintro e w1 ⟨rfl, hb⟩; rw [HF.out])
    go_ret
    exact ⟨ret_int HC.out.symm, hb⟩

/-- A width that is wide enough for a number, from one on. -/
def growI : Nat → Int → Int → Int
  | 0, _, w => w
  | k + 1, n, w => if n = 0 ∨ inDepth n w = true then w else growI k n (w + 1)
def widAll : List Int → Int → Int
  | [], w => w
  | x :: xs, w => widAll xs (growI (40 - w).toNat x w)
def widI (xs : List Int) : Int := if xs.any (fun x => !nearB x) then -1 else widAll xs 0
theorem near_in40 (n : Int) (h : nearB n = true) : inDepth n 40 = true := by
  have h0 : -8589934592 ≤ n ∧ n < 8589934592 := by unfold nearB at h; simpa using h
  unfold inDepth p2; simp; omega
theorem growI_bd (k : Nat) (n w : Int) (h0 : 0 ≤ w) : w ≤ growI k n w ∧ growI k n w ≤ w + k := by
  induction k generalizing w with
  | zero => simp [growI]
  | succ k ih =>
    simp only [growI]
    split
    · omega
    · have := ih (w + 1) (by omega); omega
theorem widAll_snoc (xs : List Int) (x w : Int) : widAll (xs ++ [x]) w = growI (40 - widAll xs w).toNat x (widAll xs w) := by
  induction xs generalizing w with
  | nil => rfl
  | cons y ys ih => simp only [List.cons_append, widAll]; exact ih _
theorem widAll_bd (xs : List Int) (w : Int) (h0 : 0 ≤ w) (h1 : w ≤ 40) : w ≤ widAll xs w ∧ widAll xs w ≤ 40 := by
  induction xs generalizing w with
  | nil => simp [widAll, h1]
  | cons x xs ih =>
    have := growI_bd (40 - w).toNat x w h0
    have := ih (growI (40 - w).toNat x w) (by omega) (by omega)
    simp only [widAll]; omega

theorem Width_any (A : Option Addr) (n c : Nat) (xs : List Int) (w : World) (hr : ReadsInt w .i64 A n xs) (hn : n ≤ 1000000) :
    Calls Try.prog 126 #[.slice A n c] w fun e w' => e = .returned (.int .i64 (widI xs)) ∧ Below w.heap.size w w' := by
  have HR := Lib.hid hr
  have hl := hr.1
  clear hr
  cases hf : xs.any fun x => !nearB x
  · have HCB : widI xs = widAll xs 0 := by unfold widI; rw [hf]; rfl
    have HF := Lib.hid hf; clear hf
    have HC := Lib.hid HCB; clear HCB
    have HL := Lib.hid hl; clear hl
    go_enter Try.func126, Try.ntmps126
    go_wp2_with (go_at_call 88; refine (far_contains _ _ _ xs _ HR.out).mono ?_; rintro e w1 ⟨rfl, hb⟩; rw [HF.out])
    go_loop [3, 10] (fun s i => ∃ j : Nat, j ≤ n ∧ i = .int .i64 j ∧ s = .int .i64 (widAll (xs.take j) 0)) (fun _ i => n - (intOf i).toNat)
    case atStart => exact ⟨0, Nat.zero_le _, rfl, rfl⟩
    case round =>
      obtain ⟨j, hj, rfl, rfl⟩ := hrel
      by_cases hlt : j < n
      · obtain ⟨ad, rfl, hc⟩ := rd_nat (HR.out.below hb) hlt
        have hts := take_snoc_getD xs j (by rw [HL.out]; exact hlt)
        have hmem := getD_mem xs j (by rw [HL.out]; exact hlt)
        obtain ⟨x, hx⟩ : ∃ x, xs.getD j 0 = x := ⟨_, rfl⟩
        rw [hx] at hc hts hmem
        have hnx : nearB x = true := by have := (List.any_eq_false.1 HF.out) x hmem; simpa using this
        have hwb := widAll_bd (xs.take j) 0 (by omega) (by omega)
        have hws := widAll_snoc (xs.take j) x 0
        rw [← hts] at hws
        obtain ⟨u, hu⟩ : ∃ u, widAll (xs.take j) 0 = u := ⟨_, rfl⟩
        rw [hu] at hws hwb ⊢
        have HW := Lib.hid hws
        have HNX := Lib.hid (near_in40 x hnx)
        clear hu hws hts hmem hx hnx
        obtain ⟨hw0, hw1⟩ := hwb
        go_wp2
        go_loop [3] (fun s => ∃ v : Int, s = .int .i64 v ∧ 0 ≤ v ∧ v ≤ 40 ∧ Hid (growI (40 - v).toNat x v = growI (40 - u).toNat x u)) (fun s => (40 - intOf s).toNat)
        case atStart => exact ⟨u, rfl, hw0, hw1, Lib.hid rfl⟩
        case round =>
          obtain ⟨v, rfl, hv0, hv1, hg⟩ := hrel
          by_cases h0 : x = 0
          · have hx0 : (x != 0) = false := by simp [h0]
            have HG : Hid (v = growI (40 - u).toNat x u) := Lib.hid (by rw [← hg.out]; cases h : (40 - v).toNat <;> simp [growI, h0])
            have HX := Lib.hid h0; clear h0
            go_wp2
            go_round
            case rel => exact ⟨j + 1, by omega, by go_num, by rw [HW.out, ← HG.out]⟩
            case measure => simp [intOf]; omega
          · have hx0 : (x != 0) = true := by simp [h0]
            have HX := Lib.hid h0; clear h0
            cases hin : inDepth x v
            · have hv40 : v < 40 := by
                rcases Int.lt_or_eq_of_le hv1 with h | h
                · exact h
                · rw [h, HNX.out] at hin; cases hin
              have HG : Hid (growI (40 - (v + 1)).toNat x (v + 1) = growI (40 - u).toNat x u) := Lib.hid (by
                rw [← hg.out, show (40 - v).toNat = (40 - (v + 1)).toNat + 1 from by omega]
                simp only [growI]
                rw [if_neg (by rw [hin]; simp [HX.out])])
              have HI := Lib.hid hin; clear hin
              go_wp2_with (go_at_call 85; refine (In_any _ _ _).mono ?_; rintro e w' ⟨rfl, rfl⟩; rw [HI.out])
              go_round
              case rel => exact ⟨v + 1, rfl, by omega, by omega, HG⟩
              case measure => simp [intOf]; omega
            · have HG : Hid (v = growI (40 - u).toNat x u) := Lib.hid (by rw [← hg.out]; cases h : (40 - v).toNat <;> simp [growI, hin])
              have HI := Lib.hid hin; clear hin
              go_wp2_with (go_at_call 85; refine (In_any _ _ _).mono ?_; rintro e w' ⟨rfl, rfl⟩; rw [HI.out])
              go_round
              case rel => exact ⟨j + 1, by omega, by go_num, by rw [HW.out, ← HG.out]⟩
              case measure => simp [intOf]; omega
      · go_wp2
        go_ret
        exact ⟨ret_int (by rw [HC.out, List.take_of_length_le (by rw [HL.out]; omega)]), hb⟩
  · have HCB : widI xs = -1 := by unfold widI; rw [hf]; rfl
    have HF := Lib.hid hf; clear hf
    have HC := Lib.hid HCB; clear HCB
    go_enter Try.func126, Try.ntmps126
    go_wp2_with (go_at_call 88; refine (far_contains _ _ _ xs _ HR.out).mono ?_; rintro e w1 ⟨rfl, hb⟩; rw [HF.out])
    go_ret
    exact ⟨ret_int HC.out.symm, hb⟩

/-- How many bits a part has by a way. -/
def eachI (xs : List Int) (k : Int) (raw : Bool) : Int := if raw then (if widI xs < 0 ∨ k < widI xs ∨ 31 < k then -1 else wrap64 (5 + wrap64 (k * xs.length))) else costB xs k
theorem Each_any (A : Option Addr) (n c : Nat) (xs : List Int) (k : Int) (raw : Bool) (w : World) (hr : ReadsInt w .i64 A n xs) (hn : n ≤ 1000000) :
    Calls Try.prog 92 #[.slice A n c, .agg #[.int .i64 k, .bool raw]] w fun e w' => e = .returned (.int .i64 (eachI xs k raw)) ∧ Below w.heap.size w w' := by
  have HR := Lib.hid hr
  have HL := Lib.hid hr.1
  clear hr
  cases raw
  · go_enter Try.func92, Try.ntmps92
    go_wp2_with (first | (go_at_call 126; refine (Width_any _ _ _ xs _ (HR.out.below (below_alloc (Below.refl _ _) _)) hn).mono ?_; rintro e w1 ⟨rfl, hb⟩; obtain ⟨hc, hf⟩ := bcell hb) | (go_at_call 127; refine (costBits_any _ _ _ xs _ _ ((HR.out.below (below_alloc (Below.refl _ _) _)).below hb) hn).mono ?_; rintro e w2 ⟨rfl, hb2⟩))
    go_ret
    exact ⟨rfl, bt (bt (ba _ _) hb) hb2⟩
  · obtain ⟨q, hq⟩ : ∃ q, widI xs = q := ⟨_, rfl⟩
    have HQ := Lib.hid hq; clear hq
    by_cases c1 : q < 0
    · go_enter Try.func92, Try.ntmps92
      go_wp2_with (go_at_call 126; refine (Width_any _ _ _ xs _ (HR.out.below (ba _ _)) hn).mono ?_; rintro e w1 ⟨rfl, hb⟩; rw [HQ.out]; obtain ⟨hc, hf⟩ := bcell hb)
      go_ret
      exact ⟨ret_int (by unfold eachI; rw [HQ.out]; simp [c1]), bt (ba _ _) hb⟩
    have c1' : decide (q < 0) = false := decide_eq_false c1
    by_cases c2 : k < q
    · go_enter Try.func92, Try.ntmps92
      go_wp2_with (go_at_call 126; refine (Width_any _ _ _ xs _ (HR.out.below (ba _ _)) hn).mono ?_; rintro e w1 ⟨rfl, hb⟩; rw [HQ.out]; obtain ⟨hc, hf⟩ := bcell hb)
      go_ret
      exact ⟨ret_int (by unfold eachI; rw [HQ.out]; simp [c2]), bt (ba _ _) hb⟩
    by_cases c3 : 31 < k
    · go_enter Try.func92, Try.ntmps92
      go_wp2_with (go_at_call 126; refine (Width_any _ _ _ xs _ (HR.out.below (ba _ _)) hn).mono ?_; rintro e w1 ⟨rfl, hb⟩; rw [HQ.out]; obtain ⟨hc, hf⟩ := bcell hb)
      go_ret
      exact ⟨ret_int (by unfold eachI; rw [HQ.out]; simp [c3]), bt (ba _ _) hb⟩
    go_enter Try.func92, Try.ntmps92
    go_wp2_with (first | (go_at_call 126; refine (Width_any _ _ _ xs _ (HR.out.below (ba _ _)) hn).mono ?_; rintro e w1 ⟨rfl, hb⟩; rw [HQ.out]; obtain ⟨hc, hf⟩ := bcell hb) | (go_at_call 128; refine (raw_any _ _ _ _ _).mono ?_; rintro e w' ⟨rfl, rfl⟩))
    go_ret
    exact ⟨ret_int (by unfold eachI; rw [HQ.out, HL.out, if_pos rfl, if_neg (by omega)]), bt (ba _ _) hb⟩
end Go.Proofs.Ytdpgojcljlfnbaa
end
section
/- The contract of parts.Cuts: how many numbers each part has; the numbers below a thousand millions. -/
set_option linter.unusedVariables false
set_option linter.unusedSimpArgs false
set_option maxRecDepth 100000
namespace Go.Proofs.Ytdpgojcljlfnbaa
open Go.RowKit
open Go.Proofs.YtdpgojcljlfnbaaW.PrintWords

/-- What each part has at least: the share. -/
def shareI (many order o : Int) : Int := (many + order) / p2 o.toNat
def cutsOk (many order o : Int) : Bool := decide (0 ≤ many) && decide (0 ≤ order) && decide (0 ≤ o) && decide (o ≤ 15) && decide (shareI many order o * p2 o.toNat = many + order) && decide (order < shareI many order o)
def cutsI (many order o : Int) : List Int := if cutsOk many order o then (shareI many order o - order) :: List.replicate (2 ^ o.toNat - 1) (shareI many order o) else []

theorem set_fill (j m : Nat) (s z : Int) (h : j < m) : (List.replicate j s ++ List.replicate (m - j) z).set j s = List.replicate (j + 1) s ++ List.replicate (m - (j + 1)) z := by
  obtain ⟨q, hq⟩ : ∃ q, m - j = q + 1 := ⟨m - j - 1, by omega⟩
  rw [hq, show m - (j + 1) = q from by omega, List.set_append_right _ _ (by simp)]
  rw [List.replicate_succ' (n := j), List.append_assoc]
  simp [List.replicate_succ]

theorem Cuts_any (many order o : Int) (w : World) (hm : many ≤ 1000000000) (ho : order ≤ 1000000000) :
    Calls Try.prog 90 #[.int .i64 many, .int .i64 order, .int .i64 o] w fun e w' => ∃ v, e = .returned v ∧ OwnI w' w.heap.size 3 .i64 v (cutsI many order o) ∧ Below w.heap.size w w' := by
  by_cases c0 : many < 0 ∨ order < 0 ∨ o < 0 ∨ 15 < o
  · have hc : cutsI many order o = [] := by
      unfold cutsI cutsOk
      rcases c0 with h | h | h | h
      · rw [decide_eq_false (p := 0 ≤ many) (by omega)]; rfl
      · rw [decide_eq_false (p := 0 ≤ order) (by omega)]; simp
      · rw [decide_eq_false (p := 0 ≤ o) (by omega)]; simp
      · rw [decide_eq_false (p := o ≤ 15) (by omega)]; simp
    have HC := Lib.hid hc; clear hc
    go_enter Try.func90, Try.ntmps90
    go_wp2
    all_goals first
      | (go_ret; exact ⟨_, rfl, by unfold OwnI; rw [HC.out]; exact own_nil _ _ _ _, Below.refl _ _⟩)
      | (exfalso; omega)
  have a0 : 0 ≤ many := by omega
  have a1 : 0 ≤ order := by omega
  have a2 : 0 ≤ o := by omega
  have a3 : o ≤ 15 := by omega
  clear c0
  obtain ⟨k, rfl⟩ : ∃ k : Nat, o = (k : Int) := ⟨o.toNat, by omega⟩
  have hk : k ≤ 15 := by omega
  obtain ⟨m, hm2⟩ : ∃ m : Nat, 2 ^ k = m := ⟨_, rfl⟩
  have hm1 : 1 ≤ m := by rw [← hm2]; exact Nat.one_le_two_pow
  have hm3 : m ≤ 32768 := by rw [← hm2]; exact Nat.pow_le_pow_right (n := 2) (by decide) hk
  have hpk : wrap64 ((2 : Int) ^ k) = (m : Int) := by
    rw [p2_eq, p2, hm2]; unfold wrap64; omega
  have hmk := print_make (P := Try.prog) 27 3 .i64 8 Try.underlying27 info_int (by decide) m (by omega)
  rw [← hpk] at hmk
  obtain ⟨s, hs⟩ : ∃ s, (many + order) / 2 ^ k = s := ⟨_, rfl⟩
  have hsI : shareI many order k = s := by unfold shareI; rw [← p2_eq]; simpa using hs
  have hs0 : 0 ≤ s := by rw [← hs]; exact Int.ediv_nonneg (by omega) (by rw [p2_eq]; exact Int.le_of_lt (p2_pos _))
  have hs1 : s ≤ 2000000000 := by rw [← hs]; exact Int.le_trans (Int.ediv_le_self _ (by omega)) (by omega)
  have hsw : wrap64 (s * 2 ^ k) = s * 2 ^ k := by
    have e : s * 2 ^ k = s * m := by rw [p2_eq, p2, hm2]
    have h1 : 0 ≤ s * m := Int.mul_nonneg hs0 (by omega)
    have h2 : s * m ≤ 2000000000 * 32768 := Int.mul_le_mul hs1 (by omega) (by omega) (by omega)
    rw [e]; unfold wrap64; omega
  have hP : p2 (k : Int).toNat = 2 ^ k := by rw [p2_eq]; simp
  have HP := Lib.hid hP; have HS := Lib.hid hs; have HI := Lib.hid hsI; have HM := Lib.hid hm2; have HK := Lib.hid hpk
  by_cases c1 : s * 2 ^ k = many + order
  · rw [c1] at hsw
    by_cases c2 : order < s
    · have HC : Hid (cutsI many order k = (s - order) :: List.replicate (m - 1) s) := Lib.hid (by
        unfold cutsI cutsOk
        rw [HI.out, HP.out, c1]
        simp [a0, a1, a3, c2, HM.out])
      have hq : wrap64 (s * 2 ^ k) = many + order := by rw [c1, hsw]
      have hd : (many + order) / 2 ^ k = s := HS.out
      have hq2 : ((many + order) / 2 ^ k ≤ order) = False := eq_false (by rw [HS.out]; omega)
      clear c1 hsw hP hs hsI hm2 hpk
      go_enter Try.func90, Try.ntmps90
      go_wp2
      go_loopw [46] (fun i wr => ∃ j : Nat, j ≤ m ∧ i = .int .i64 j ∧ Hid (wr.ownsRow w.heap.size 3 1 (.slice (some ⟨w.heap.size, 0, none⟩) m m) m (nums .i64 (List.replicate j s ++ List.replicate (m - j) 0))) ∧ Below w.heap.size w wr) (fun i _ => m - (intOf i).toNat)
      case atStart => exact ⟨0, Nat.zero_le _, rfl, Lib.hid (by simpa using own_made w _ 3 .i64 m (Nat.le_refl _) (by omega)), ba _ _⟩
      case round =>
        obtain ⟨j, hj, rfl, hown, hb⟩ := hrel
        by_cases hlt : j < m
        · obtain ⟨hcell, hfz⟩ := own_at hown.out (j : Int) (by omega) (by omega)
          have hst := own_store hown.out (j : Int) s
          simp only [Int.toNat_natCast] at hcell hfz hst
          have HST := Lib.hid hst; clear hst
          go_wp2
          go_roundw
          case rel =>
            refine ⟨j + 1, by omega, by go_num, Lib.hid ?_, hb.setCell (by simp) _⟩
            have h := HST.out.1
            rwa [set_fill _ _ _ _ hlt] at h
          case measure => simp [intOf]; omega
        · obtain rfl : j = m := by omega
          have hx : List.replicate j s ++ List.replicate (j - j) 0 = List.replicate j s := by simp
          have hown := hown.out
          rw [hx] at hown
          obtain ⟨hcell, hfz⟩ := own_at hown 0 (by omega) (by omega)
          have hst := own_store hown 0 (s - order)
          have hr0 : rd (List.replicate j s) 0 = s := by unfold rd; simp [List.getD_eq_getElem?_getD, List.getElem?_replicate, show 0 < j by omega]
          rw [hr0] at hcell
          simp only [Int.toNat_zero] at hcell hfz hst
          have HST := Lib.hid hst; clear hst hr0 hx
          have HO := Lib.hid hown; clear hown
          go_wp2
          go_ret
          refine ⟨_, rfl, ?_, hb.setCell (by simp) _⟩
          have h := HST.out.1
          unfold OwnI
          rw [HC.out]
          have e : (List.replicate j s).set 0 (s - order) = (s - order) :: List.replicate (j - 1) s := by
            obtain ⟨q, rfl⟩ : ∃ q, j = q + 1 := ⟨j - 1, by omega⟩
            simp [List.replicate_succ]
          rw [e] at h
          have e2 : ((s - order) :: List.replicate (j - 1) s).length = j := by simp; omega
          rw [e2]; exact h
    · have HC : Hid (cutsI many order k = []) := Lib.hid (by
        unfold cutsI cutsOk
        rw [HI.out, HP.out, c1]
        simp [a0, a1, a3, c2])
      have hq : wrap64 ((many + order) / 2 ^ k * 2 ^ k) = many + order := by rw [HS.out, c1, hsw]
      have hq2 : (many + order) / 2 ^ k ≤ order := by rw [HS.out]; omega
      clear c1 hsw hP hs hsI hm2 hpk
      go_enter Try.func90, Try.ntmps90
      go_wp2
      go_ret; exact ⟨_, rfl, by unfold OwnI; rw [HC.out]; exact own_nil _ _ _ _, Below.refl _ _⟩
  · have HC : Hid (cutsI many order k = []) := Lib.hid (by
      unfold cutsI cutsOk
      rw [HI.out, HP.out, decide_eq_false c1]
      simp)
    have hq : (wrap64 (s * 2 ^ k) = many + order) = False := eq_false (by rw [hsw]; exact c1)
    have hd : (many + order) / 2 ^ k = s := HS.out
    clear c1 hsw hP hs hsI hm2 hpk
    go_enter Try.func90, Try.ntmps90
    go_wp2
    all_goals first
      | (go_ret; exact ⟨_, rfl, by unfold OwnI; rw [HC.out]; exact own_nil _ _ _ _, Below.refl _ _⟩)
end Go.Proofs.Ytdpgojcljlfnbaa
end
section
/- An append as a step of a region that draws its order; no condition. -/
set_option linter.unusedVariables false
set_option linter.unusedSimpArgs false
namespace Go.Proofs.Ytdpgojcljlfnbaa
open Go.RowKit
open Go.Proofs.YtdpgojcljlfnbaaW.PrintWords
section
variable {P : Program} {ops : Array Oper} {o : Oper} {a : Act} {Q : Exit → Act → World → Prop} {K : Act → World → Prop}
theorem step_append_drew {w0 W : World} (base : Nat) (hg : o.guard = none) (s x : Operand) (t e : TypeId) (z : Value) (size bytes : Nat)
    (ho : o.op = .call { callee := .builtin .append, args := #[s, x], argTypes := #[t, t] })
    (ht : P.underlying t = some (.slice e)) (hinfo : (P.info? e).map (fun i => (i.zero, i.size, i.bytes)) = some (some z, size, bytes)) (hz : z.cells.size = size) (hs0 : 0 < size) (hb0 : 0 < bytes)
    (v : Value) (n : Nat) (xs ys : List Value) (hs : a.eval s = v) (hx : a.eval x = .slice (some ⟨W.heap.size, 0, none⟩) 1 1) (hys : ys.length = size) (h1 : ∀ u ∈ ys, u.oneCell' = true)
    (HO : W.ownsRow base e size v n xs) (HB : Below base w0 W) (hbase : base ≤ W.heap.size) (hl : (n + 1) * bytes ≤ 140737488355328)
    (h : ∀ v1 w1, w1.ownsRow base e size v1 (n + 1) (xs ++ ys) → Below base w0 w1 → W.grownBy w1 v.ownBlock → (v1.ownBlock = v.ownBlock ∨ ∃ b, v1.ownBlock = some b ∧ W.heap.size ≤ b) → K (a.put o.dst v1) w1) :
    if Region.wanted o (yielded ops a.tmps) = true then Oper.wp P o a (W.alloc (.cells ys.toArray e)).drew K Q else K (a.put o.dst undef) (W.alloc (.cells ys.toArray e)).drew :=
  step_append_cells (P := P) (W := W.drew) base (by simp [Region.wanted, hg]) s x t e z size bytes ho ht hinfo hz hs0 hb0 v n xs ys hs hx hys h1 HO (below_drew HB) hbase hl (fun v1 w1 h1 h2 h3 h4 => h v1 w1 h1 h2 ⟨h3.os, h3.tape, h3.output, h3.size, h3.block⟩ h4)
theorem step_append_new {w0 W : World} (base : Nat) (hg : o.guard = none) (s x : Operand) (t e : TypeId) (z : Value) (size bytes : Nat)
    (ho : o.op = .call { callee := .builtin .append, args := #[s, x], argTypes := #[t, t] })
    (ht : P.underlying t = some (.slice e)) (hinfo : (P.info? e).map (fun i => (i.zero, i.size, i.bytes)) = some (some z, size, bytes)) (hz : z.cells.size = size) (hs0 : 0 < size) (hb0 : 0 < bytes)
    (v : Value) (n : Nat) (xs ys : List Value) (hs : a.eval s = v) (hx : a.eval x = .slice (some ⟨W.heap.size, 0, none⟩) 1 1) (hys : ys.length = size) (h1 : ∀ u ∈ ys, u.oneCell' = true)
    (HO : W.ownsRow base e size v n xs) (HB : Below base w0 W) (hbase : base ≤ W.heap.size) (hl : (n + 1) * bytes ≤ 140737488355328)
    (h : ∀ v1 w1, w1.ownsRow base e size v1 (n + 1) (xs ++ ys) → Below base w0 w1 → W.grownBy w1 v.ownBlock → (v1.ownBlock = v.ownBlock ∨ ∃ b, v1.ownBlock = some b ∧ W.heap.size ≤ b) → K (a.put o.dst v1) w1) :
    if Region.wanted o (yielded ops a.tmps) = true then Oper.wp P o a (W.alloc (.cells ys.toArray e)) K Q else K (a.put o.dst undef) (W.alloc (.cells ys.toArray e)) :=
  step_append_cells (P := P) (W := W) base (by simp [Region.wanted, hg]) s x t e z size bytes ho ht hinfo hz hs0 hb0 v n xs ys hs hx hys h1 HO HB hbase hl h
theorem step_append_str {w0 W : World} {E : Prop} (base : Nat) (hgd : o.guard = none) (s x : Operand) (t u e : TypeId)
    (ho : o.op = .call { callee := .builtin .append, args := #[s, x], argTypes := #[t, u] })
    (ht : P.underlying t = some (.slice e)) (hu : P.underlying u = some .string) (hinfo : (P.info? e).map (fun i => (i.zero, i.size, i.bytes)) = some (some (.int .u8 0), 1, 1))
    (v : Value) (xs : List Int) (y : ByteArray) (hs : a.eval s = v) (hx : a.eval x = .string y)
    (HO : W.ownsRow base e 1 v xs.length (nums .u8 xs)) (HB : Below base w0 W) (hbase : base ≤ W.heap.size) (hl : xs.length + y.size ≤ 140737488355328)
    (h : ∀ v1 w1, w1.ownsRow base e 1 v1 (xs ++ bytesOf y).length (nums .u8 (xs ++ bytesOf y)) → Below base w0 w1 → W.grownBy w1 v.ownBlock → K (a.put o.dst v1) w1) :
    if Region.wanted o (yielded ops a.tmps) = true then Oper.wp P o a W K Q else E := by
  obtain ⟨i0, hi, hzz⟩ := Option.map_eq_some_iff.1 hinfo
  simp only [Prod.mk.injEq] at hzz
  obtain ⟨hz0, hz1, hz2⟩ := hzz
  have hw : Region.wanted o (yielded ops a.tmps) = true := by simp [Region.wanted, hgd]
  rw [if_pos hw]
  obtain ⟨v1, w1, hr, hown, hg, _⟩ := Lib.run_append_own_string (P := P) W base t u o.type e i0 ht hu hi hz0 hz1 hz2 v xs.length (nums .u8 xs) HO y (by simp only [maxLen]; omega) hl hbase
  have hl2 : (xs ++ bytesOf y).length = xs.length + y.size := by rw [List.length_append, bytesOf_length]
  have hc : nums .u8 (xs ++ bytesOf y) = nums .u8 xs ++ Lib.strCells y := by
    rw [nums_append]
    congr 1
    simp [nums, bytesOf, Lib.strCells]
  unfold Oper.wp execOp
  simp only [ho, resolve, invoke, builtin, Sem.run_bind, Sem.run_pure, Result.andThen_ok, List.map_toArray, List.map_cons, List.map_nil, hs, hx, hr]
  exact h v1 w1 (by rw [hl2, hc]; exact hown) (HB.grown hg hbase (own_base HO)) hg
end
end Go.Proofs.Ytdpgojcljlfnbaa
end
