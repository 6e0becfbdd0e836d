/- Contracts of subframe.signed, numbers, kind: where enough bits are left. -/
import Derived.Test.YtdpgojcljlfnbaaReader
--DEV
set_option linter.unusedVariables false
set_option linter.unusedSimpArgs false
set_option maxRecDepth 100000
namespace Go.Proofs.Ytdpgojcljlfnbaa
open Go.RowKit
open Go.Proofs.YtdpgojcljlfnbaaW.PrintWords

/-- A number of so many bits with its sign. -/
def signI (n width : Nat) : Int := if n < 2 ^ (width - 1) then (n : Int) else (n : Int) - p2 width
theorem sign_of (n width : Nat) (h1 : 1 ≤ width) (h2 : width ≤ 64) (hn : n < 2 ^ width) : IntKind.i64.wrap ((n : Int) * 2 ^ (64 - width)) / 2 ^ (64 - width) = signI n width := by
  obtain ⟨s, hs⟩ : ∃ s, 64 - width = s := ⟨_, rfl⟩
  rw [hs]
  have hP : 0 < 2 ^ s := Nat.pow_pos (by decide)
  have e1 : 2 ^ width * 2 ^ s = 18446744073709551616 := by rw [← Nat.pow_add, show width + s = 64 from by omega]
  have e2 : 2 ^ (width - 1) * 2 ^ s = 9223372036854775808 := by rw [← Nat.pow_add, show width - 1 + s = 63 from by omega]
  have ec : ((n : Int) * 2 ^ s) = ((n * 2 ^ s : Nat) : Int) := by simp
  have h64 : n * 2 ^ s < 18446744073709551616 := by rw [← e1]; exact Nat.mul_lt_mul_of_pos_right hn hP
  have ep : ((2 : Int) ^ s) = ((2 ^ s : Nat) : Int) := by simp
  unfold signI
  by_cases h : n < 2 ^ (width - 1)
  · rw [if_pos h]
    have h63 : n * 2 ^ s < 9223372036854775808 := by rw [← e2]; exact Nat.mul_lt_mul_of_pos_right h hP
    rw [ec, IntWalk.i64_in _ (by omega), ep, Int.natCast_mul]
    exact Int.mul_ediv_cancel _ (by omega)
  · rw [if_neg h]
    have h63 : 9223372036854775808 ≤ n * 2 ^ s := by rw [← e2]; exact Nat.mul_le_mul_right _ (by omega)
    have ew : IntKind.i64.wrap ((n * 2 ^ s : Nat) : Int) = ((n * 2 ^ s : Nat) : Int) - 18446744073709551616 := by
      generalize n * 2 ^ s = z at h63 h64 ⊢
      simp [IntKind.wrap, IntKind.bits, IntKind.signed]
      omega
    rw [ec, ew, ep, show (18446744073709551616 : Int) = ((2 ^ width * 2 ^ s : Nat) : Int) from by rw [e1]; rfl, Int.natCast_mul, Int.natCast_mul, ← Int.sub_mul]
    exact Int.mul_ediv_cancel _ (by omega)
theorem signed_any (base g : Nat) (v : Value) (ys : List Int) (k : Nat) (width : Int) (w : World) (hR : IsR w base g v ys k 0) (h1 : 1 ≤ width) (h2 : width ≤ 63) (hl : k + width.toNat ≤ 8 * ys.length) :
    Calls Try.prog 117 #[.pointer (some ⟨g, 0, none⟩), .int .i64 width] w fun e w' => e = .returned (.int .i64 (signI (numB (((bitsOf ys).drop k).take width.toNat)) width.toNat)) ∧ IsR w' base g v ys (k + width.toNat) 0 ∧ RStep w w' g := by
  have hwd : wid width = width.toNat := wid_of (by omega) (by omega)
  have hfl : takeFl ys k 0 width = 0 := by unfold takeFl; rw [hwd, if_neg (by omega)]
  have hv : takeV ys k 0 width = numB (((bitsOf ys).drop k).take width.toNat) := by unfold takeV; rw [hfl, if_pos rfl, hwd]
  have hk : takeK ys k 0 width = k + width.toNat := by unfold takeK; rw [hfl, if_pos rfl, hwd]
  have HFL := Lib.hid hfl; have HV := Lib.hid hv; have HK := Lib.hid hk
  have HR := Lib.hid hR
  obtain ⟨x, hx⟩ : ∃ x, numB (((bitsOf ys).drop k).take width.toNat) = x := ⟨_, rfl⟩
  have hxb : x < 2 ^ width.toNat := by
    rw [← hx]
    exact Nat.lt_of_lt_of_le (numB_lt _) (Nat.pow_le_pow_right (by decide) (by rw [List.length_take]; omega))
  have HX := Lib.hid hx
  have hsg := sign_of x width.toNat (by omega) (by omega) hxb
  have hsx : (64 : Int) - width = ((64 - width.toNat : Nat) : Int) := by omega
  obtain ⟨sh, hsh⟩ : ∃ sh, 64 - width.toNat = sh := ⟨_, rfl⟩
  rw [hsh] at hsx hsg
  obtain ⟨sg, hsgv⟩ : ∃ sg, signI x width.toNat = sg := ⟨_, rfl⟩
  rw [hsgv] at hsg
  have HSG := Lib.hid hsgv
  have hsh63 : sh ≤ 63 := by omega
  have hsh0 : (0 : Int) ≤ (sh : Int) := by omega
  have hx63 : x < 9223372036854775808 := Nat.lt_of_lt_of_le hxb (by
    have : 2 ^ width.toNat ≤ 2 ^ 63 := Nat.pow_le_pow_right (by decide) (by omega)
    omega)
  have hwx : wrap64 (x : Int) = (x : Int) := by unfold wrap64; omega
  have hwy : IntKind.i64.wrap ((x : Int) * 2 ^ sh) = wrap64 ((x : Int) * 2 ^ sh) := by
    generalize (x : Int) * 2 ^ sh = z
    simp [IntKind.wrap, IntKind.bits, IntKind.signed, wrap64]
    omega
  rw [hwy] at hsg
  have HSG2 := Lib.hid hsg
  clear hwd hfl hv hk hR hx hsgv hsh hxb hwy hsg
  go_enter Try.func117, Try.ntmps117
  go_wp2_with fail
  refine (Take_any base g v ys k 0 width w HR.out).mono ?_
  rintro e w1 ⟨rfl, hr1, hs1⟩
  rw [HFL.out, HK.out] at hr1
  rw [HV.out, HX.out]
  have HR1 := Lib.hid hr1
  clear hr1
  go_wp2
  go_ret
  exact ⟨ret_int (by rw [HX.out, HSG.out, HSG2.out]), HR1.out, hs1⟩

theorem own_base {w : World} {base n sz : Nat} {e : TypeId} {y : Value} {xs : List Value} (h : w.ownsRow base e sz y n xs) (k : Nat) (hk : y.ownBlock = some k) : base ≤ k := by
  rcases h.2 with ⟨h1, _⟩ | ⟨g', cap, cur, h1, hb, _⟩
  · rw [h1] at hk; cases hk
  · rw [h1] at hk
    simp [Value.ownBlock] at hk
    omega
theorem RStep.grown {w w1 w2 : World} {g n sz : Nat} {e : TypeId} {u : Value} {xs : List Value} (h : RStep w w1 g) (ho : w1.ownsRow w.heap.size e sz u n xs) (hg : w1.grownBy w2 u.ownBlock) : RStep w w2 g :=
  ⟨hg.os.trans h.os, hg.tape.trans h.tape, hg.output.trans h.output, Nat.le_trans h.size hg.size, fun i hi hne hn => (hg.block i (Nat.lt_of_lt_of_le hi h.size) (fun he => by have := own_base ho i he.symm; omega)).trans (h.keep.2 i hi hne hn)⟩
theorem IsR.grown {w1 w2 : World} {base b g n sz k : Nat} {e : TypeId} {u v : Value} {xs : List Value} {ys : List Int} {fl : Int} (h : IsR w1 base g v ys k fl) (ho : w1.ownsRow b e sz u n xs) (hg : w1.grownBy w2 u.ownBlock) (h1 : e ≠ 141) (h2 : e ≠ 5) : IsR w2 base g v ys k fl := by
  refine ⟨(hg.block g (blk_lt h.blk) (own_ne ho h.blk h1)).trans h.blk, own_move h.own fun i hi => ?_, h.at_, h.by_, h.len⟩
  obtain ⟨cells, hc⟩ := own_typed h.own i hi
  exact hg.block i (blk_lt hc) (own_ne ho hc h2)

/-- So many numbers of so many bits. -/
def numsAt (bs : List Bool) (k width : Nat) : Nat → List Int
  | 0 => []
  | n + 1 => numsAt bs k width n ++ [signI (numB ((bs.drop (k + width * n)).take width)) width]
theorem numsAt_length (bs : List Bool) (k width n : Nat) : (numsAt bs k width n).length = n := by
  induction n with
  | zero => rfl
  | succ n ih => simp [numsAt, ih]

set_option maxHeartbeats 1000000 in
theorem numbers_any (base g : Nat) (v : Value) (ys : List Int) (k many : Nat) (width : Int) (w : World) (hR : IsR w base g v ys k 0) (h1 : 1 ≤ width) (h2 : width ≤ 63) (hm : many ≤ 1000000) (hl : k + width.toNat * many ≤ 8 * ys.length) (hbase : base ≤ w.heap.size) :
    Calls Try.prog 79 #[.pointer (some ⟨g, 0, none⟩), .int .i64 many, .int .i64 width] w fun e w' => ∃ v', e = .returned v' ∧ OwnI w' w.heap.size 3 .i64 v' (numsAt (bitsOf ys) k width.toNat many) ∧ IsR w' base g v ys (k + width.toNat * many) 0 ∧ RStep w w' g := by
  have HR := Lib.hid hR; have HL := Lib.hid hl
  clear hR hl
  obtain ⟨bs, hbs⟩ : ∃ bs, bitsOf ys = bs := ⟨_, rfl⟩
  have HBS := Lib.hid hbs
  rw [hbs]
  clear hbs
  go_enter Try.func79, Try.ntmps79
  go_wp2
  go_loopw [7, 10] (fun u i wr => Hid (∃ j : Nat, j ≤ many ∧ i = .int .i64 j ∧ wr.ownsRow w.heap.size 3 1 u j (nums .i64 (numsAt bs k width.toNat j)) ∧ IsR wr base g v ys (k + width.toNat * j) 0 ∧ RStep w wr g)) (fun _ i _ => many - (intOf i).toNat)
  case atStart => exact Lib.hid ⟨0, Nat.zero_le _, rfl, own_nil _ _ _ _, by simpa using HR.out, RStep.refl _ _⟩
  case round =>
    obtain ⟨j, hj, rfl, hown, hr1, hs1⟩ := hrel.out
    clear hrel
    have HO := Lib.hid hown; have HR1 := Lib.hid hr1; have HS1 := Lib.hid hs1
    clear hown hr1 hs1
    by_cases hlt : j < many
    · have hkj : k + width.toNat * j + width.toNat ≤ 8 * ys.length := by
        have h := HL.out
        have h3 : width.toNat * (j + 1) ≤ width.toNat * many := Nat.mul_le_mul_left _ hlt
        rw [Nat.mul_add, Nat.mul_one] at h3
        omega
      go_wp2_with fail
      refine (signed_any base g v ys (k + width.toNat * j) width wr HR1.out h1 h2 hkj).mono ?_
      rintro e w2 ⟨rfl, hr2, hs2⟩
      obtain ⟨x, hx⟩ : ∃ x, signI (numB (((bitsOf ys).drop (k + width.toNat * j)).take width.toNat)) width.toNat = x := ⟨_, rfl⟩
      rw [hx]
      have HX := Lib.hid hx
      have HR2 := Lib.hid hr2
      have HO2 := Lib.hid (hs2.own_ HR1.out.blk HO.out (by decide))
      have HS2 := Lib.hid (HS1.out.trans hs2)
      clear hr2 hs2 hx
      go_wp2_with fail
      refine (Fail_same base g v ys _ 0 w2 HR2.out).mono ?_
      rintro e w3 ⟨rfl, rfl⟩
      have hjl : (numsAt bs k width.toNat j).length = j := numsAt_length _ _ _ _
      have HJL := Lib.hid hjl
      clear hjl
      have hsz : w.heap.size ≤ w3.heap.size := HS2.out.size
      go_wp2_with (at_builtin; refine print_append_num (w0 := w3) w.heap.size rfl (.tmp 18) (.tmp 20) 27 3 .i64 8 rfl Try.underlying27 info_int (by decide) u7 (numsAt bs k width.toNat j) x rfl rfl (by rw [HJL.out]; exact HO2.out) (Below.refl _ _) hsz (by rw [HJL.out]; omega) ?_; rintro v1 w6 hown6 hb6 hg6 hat6)
      have hR6 : IsR w6 base g v ys (k + width.toNat * j + width.toNat) 0 := HR2.out.grown HO2.out hg6 (by decide) (by decide)
      have hS6 : RStep w w6 g := HS2.out.grown HO2.out hg6
      have HR6 := Lib.hid hR6; have HS6 := Lib.hid hS6; have HO6 := Lib.hid hown6
      clear hR6 hS6 hown6 hb6 hg6 hat6
      go_roundw
      case rel =>
        refine Lib.hid ⟨j + 1, by omega, by go_num, ?_, ?_, HS6.out⟩
        · have e2 : (numsAt bs k width.toNat j ++ [x]).length = j + 1 := by rw [List.length_append, HJL.out]; rfl
          have e3 : numsAt bs k width.toNat (j + 1) = numsAt bs k width.toNat j ++ [x] := by rw [numsAt, ← HBS.out, HX.out]
          rw [e3, ← e2]; exact HO6.out
        · rw [Nat.mul_add, Nat.mul_one, ← Nat.add_assoc]; exact HR6.out
      case measure => simp [intOf]; omega
    · obtain rfl : j = many := by omega
      go_wp2
      go_ret
      exact ⟨_, rfl, by unfold OwnI; rw [numsAt_length]; exact HO.out, HR1.out, HS1.out⟩
end Go.Proofs.Ytdpgojcljlfnbaa
