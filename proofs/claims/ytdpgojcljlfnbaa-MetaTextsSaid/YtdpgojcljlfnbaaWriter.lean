/- Contracts of bits.Writer: New, Put, Bytes, Len; fewer than 2^40 bits. -/
import Derived.Test.YtdpgojcljlfnbaaBits
import Derived.Test.YtdpgojcljlfnbaaBitMath
import Derived.Laws.BitsLemmas
import Derived.Laws.BitsAllLaws
set_option linter.unusedVariables false
set_option linter.unusedSimpArgs false
set_option maxRecDepth 100000
namespace Go.Proofs.Ytdpgojcljlfnbaa
open Go.RowKit
open Go.Proofs.YtdpgojcljlfnbaaW.PrintWords

/-- A Writer at block g: v its bytes, bs its bits. -/
structure IsW (w : World) (base g : Nat) (v : Value) (bs : List Bool) : Prop where
  blk : w.heap[g]? = some (.cells #[v, .int .i64 bs.length] 134 (0, 0))
  own : w.ownsRow base 5 1 v (toBytes bs).length (nums .u8 (toBytes bs))
  ge : base ≤ g
/-- What a step with a Writer leaves as it was. -/
structure WStep (w w' : World) (g : Nat) (v v' : Value) : Prop where
  os : w'.os = w.os
  tape : w'.tape = w.tape
  output : w'.output = w.output
  keep : KeepBut w w' g v.ownBlock
  own : v'.ownBlock = v.ownBlock ∨ ∃ b, v'.ownBlock = some b ∧ w.heap.size ≤ b

/-- A width as it is held. -/
def wid (width : Int) : Nat := (max 0 (min width 64)).toNat
theorem wid_le (width : Int) : wid width ≤ 64 := by unfold wid; omega
theorem wid_of {width : Int} (h0 : 0 ≤ width) (h1 : width ≤ 64) : wid width = width.toNat := by unfold wid; omega
theorem WStep.refl (w : World) (g : Nat) (v : Value) : WStep w w g v v := ⟨rfl, rfl, rfl, KeepBut.refl _ _ _, .inl rfl⟩
theorem WStep.trans {w w1 w2 : World} {g : Nat} {v v1 v2 : Value} (h : WStep w w1 g v v1) (k : WStep w1 w2 g v1 v2) : WStep w w2 g v v2 := by
  refine ⟨k.os.trans h.os, k.tape.trans h.tape, k.output.trans h.output, ?_, ?_⟩
  · refine h.keep.trans k.keep ?_
    exact h.own
  · rcases k.own with h1 | ⟨b, h1, h2⟩
    · rw [h1]; exact h.own
    · exact .inr ⟨b, h1, Nat.le_trans h.keep.1 h2⟩
theorem WStep.below {w0 w w1 : World} {g : Nat} {v v1 : Value} (h : WStep w w1 g v v1) (hb : Below w0.heap.size w0 w) (hg : w0.heap.size ≤ g) (hv : ∀ k, v.ownBlock = some k → w0.heap.size ≤ k) : Below w0.heap.size w0 w1 :=
  ⟨h.os.trans hb.os, h.tape.trans hb.tape, h.output.trans hb.output, Nat.le_trans hb.size h.keep.1, fun k hk => (h.keep.2 k (Nat.lt_of_lt_of_le hk hb.size) (by omega) (fun he => by have := hv k he.symm; omega)).trans (hb.block k hk)⟩
theorem WStep.drew (w : World) (g : Nat) (v : Value) (n : Nat) : WStep w (w.drewN n) g v v := ⟨rfl, rfl, rfl, ⟨Nat.le_refl _, fun _ _ _ _ => rfl⟩, .inl rfl⟩
theorem WStep.of_below {w w1 : World} (h : Below w.heap.size w w1) (g : Nat) (v : Value) : WStep w w1 g v v := ⟨h.os, h.tape, h.output, KeepBut.of_below h g _, .inl rfl⟩
theorem IsW.below {w w1 : World} {base g : Nat} {v : Value} {bs : List Bool} (h : IsW w base g v bs) (hb : Below w.heap.size w w1) : IsW w1 base g v bs := ⟨blk_below h.blk hb, pw_own_below h.own hb, h.ge⟩

theorem fl76 {a : Act} {x0 x1 x6 : Value} (hs : a.tmps.size = 76) (hd : a.defers = []) (h0 : a.tmps.getD 0 undef = x0) (h1 : a.tmps.getD 1 undef = x1) (h6 : a.tmps.getD 6 undef = x6) : ∃ u : Nat → Value, a = { tmps := #[x0, x1, u 2, u 3, u 4, u 5, x6, u 7, u 8, u 9, u 10, u 11, u 12, u 13, u 14, u 15, u 16, u 17, u 18, u 19, u 20, u 21, u 22, u 23, u 24, u 25, u 26, u 27, u 28, u 29, u 30, u 31, u 32, u 33, u 34, u 35, u 36, u 37, u 38, u 39, u 40, u 41, u 42, u 43, u 44, u 45, u 46, u 47, u 48, u 49, u 50, u 51, u 52, u 53, u 54, u 55, u 56, u 57, u 58, u 59, u 60, u 61, u 62, u 63, u 64, u 65, u 66, u 67, u 68, u 69, u 70, u 71, u 72, u 73, u 74, u 75], defers := [] } := by
  subst h0
  subst h1
  subst h6
  refine ⟨fun i => a.tmps.getD i undef, ?_⟩
  obtain ⟨t, d⟩ := a
  cases hd
  exact congrArg (fun t => ({ tmps := t, defers := [] } : Act)) (frame_eq t 76 hs)

theorem part_of (n l m : Nat) (hm : m ≤ 8) : bits BinOp.and IntKind.u8 ((n : Int) / 2 ^ l % 256) ((2 ^ m - 1) % 256) = ((n / 2 ^ l % 2 ^ m : Nat) : Int) := by
  have h1 : (1 : Nat) ≤ 2 ^ m := Nat.one_le_two_pow
  have h2 : 2 ^ m ≤ 2 ^ 8 := Nat.pow_le_pow_right (by decide) hm
  have e1 : ((n : Int) / 2 ^ l % 256) = ((n / 2 ^ l % 256 : Nat) : Int) := by simp
  have e2 : ((2 : Int) ^ m - 1) % 256 = ((2 ^ m - 1 : Nat) : Int) := by
    have e : ((2 : Int) ^ m) = ((2 ^ m : Nat) : Int) := by simp
    rw [e]; omega
  rw [e1, e2, u8_and_nat _ _ (by omega) (by omega), Nat.and_two_pow_sub_one_eq_mod]
  have hd : (2 ^ m) ∣ 256 := by
    have := Nat.pow_dvd_pow 2 hm
    simpa using this
  rw [Nat.mod_mod_of_dvd _ hd]

set_option maxHeartbeats 2000000 in
theorem Put_any (g base : Nat) (v : Value) (bs : List Bool) (n : Nat) (width : Int) (w : World) (hW : IsW w base g v bs) (hn : n < 18446744073709551616) (hbs : bs.length ≤ 1099511627776) (hbase : base ≤ w.heap.size) :
    Calls Try.prog 73 #[.pointer (some ⟨g, 0, none⟩), .int .u64 n, .int .i64 width] w fun e w' => e = .returned (.tuple #[]) ∧ ∃ v', IsW w' base g v' (bs ++ digits n (wid width)) ∧ WStep w w' g v v' := by
  obtain ⟨K, hK⟩ : ∃ K, wid width = K := ⟨_, rfl⟩
  have hK' : (max 0 (min width 64)).toNat = K := hK
  have hK64 : K ≤ 64 := by omega
  have hKi : max 0 (min width 64) = (K : Int) := by omega
  have HKI := Lib.hid hKi
  rw [hK]
  clear hK hKi hK'
  go_enter Try.func73, Try.ntmps73
  refine wp_scope_goto 0 (fun k a W => a.tmps.size = 76 ∧ a.defers = [] ∧ a.tmps.getD 0 undef = .pointer (some ⟨g, 0, none⟩) ∧ a.tmps.getD 1 undef = .int .u64 n ∧ a.tmps.getD 6 undef = .int .i64 (k : Int) ∧ k ≤ 64 ∧ ∃ (v1 : Value) (bs1 : List Bool), IsW W base g v1 bs1 ∧ bs1 ++ digits n k = bs ++ digits n K ∧ WStep w W g v v1) rfl ?pass ?first
  case first =>
    intro H hgo
    have HGO := Lib.hid hgo; clear hgo
    go_wp2_with (go_at_call 114; refine (held_any _ _).mono ?_; rintro e w' ⟨rfl, rfl⟩; rw [HKI.out])
    go_step3
    go_step
    go_step
    exact HGO.out K _ _ ⟨rfl, rfl, rfl, rfl, rfl, hK64, v, bs, hW, rfl, WStep.refl _ _ _⟩
  case pass =>
    rintro k a W ⟨hs, hdf, ht0, ht1, ht6, hk64, v1, bs1, hW1, hbits, hstep⟩ H hH
    have HH := Lib.hid hH
    have HW1 := Lib.hid hW1; have HBITS := Lib.hid hbits; have HSTEP := Lib.hid hstep
    have hlen1 : bs1.length ≤ 1099511627776 + 64 := by
      have h := congrArg List.length hbits
      simp only [List.length_append, digits_length] at h
      omega
    clear hH hW1 hbits hstep
    obtain ⟨u, ha⟩ := fl76 hs hdf ht0 ht1 ht6
    subst ha
    clear hs hdf ht0 ht1 ht6
    cases k with
    | zero =>
      go_wp2
      simp only [Exit.jump]
      refine bodyPost_ret (v := .tuple #[]) (by simp [results, Try.results73, go_sem]) rfl ?_
      have h := HBITS.out
      simp only [digits, List.range_zero, List.map_nil, List.append_nil] at h
      refine ⟨rfl, v1, ?_, HSTEP.out⟩
      have h2 : bs ++ digits n K = bs1 := h.symm
      rw [h2]; exact HW1.out
    | succ k =>
      have hblk := HW1.out.blk
      have c0 : W.cell? ⟨g, 0, none⟩ = some v1 := blk_cell hblk 0
      have c1 : W.cell? ⟨g, 1, none⟩ = some (.int .i64 bs1.length) := blk_cell hblk 1
      have f0 := blk_frozen hblk 0
      have HBLK := Lib.hid hblk
      clear hblk
      obtain ⟨r, hr⟩ : ∃ r, bs1.length % 8 = r := ⟨_, rfl⟩
      have hr8 : r < 8 := by omega
      have hri : (bs1.length : Int) % 8 = (r : Int) := by omega
      have HR := Lib.hid hr
      clear hr
      obtain ⟨m, hm⟩ : ∃ m, min (8 - r) (k + 1) = m := ⟨_, rfl⟩
      obtain ⟨l, hl⟩ : ∃ l, k + 1 - m = l := ⟨_, rfl⟩
      have hm1 : 1 ≤ m := by omega
      have hm2 : m ≤ 8 - r := by omega
      have hm3 : m ≤ k + 1 := by omega
      have hmi : min (8 - (r : Int)) ((k : Int) + 1) = (m : Int) := by omega
      have hli : (k : Int) + 1 - (m : Int) = (l : Int) := by omega
      have hkl : k + 1 ≤ m + l := by omega
      have hkl2 : m + l ≤ k + 1 := by omega
      have hl63 : l ≤ 63 := by omega
      have hm8 : m ≤ 8 := by omega
      clear hm hl
      have x1 : (0 : Int) ≤ (l : Int) := by omega
      have x2 : (0 : Int) ≤ (m : Int) := by omega
      have hpart := part_of n l m hm8
      obtain ⟨pt, hpt⟩ : ∃ pt, n / 2 ^ l % 2 ^ m = pt := ⟨_, rfl⟩
      rw [hpt] at hpart
      have HPT := Lib.hid hpt
      have hpt2 : pt < 2 ^ m := by rw [← hpt]; exact Nat.mod_lt _ (Nat.pow_pos (by decide))
      have hp256 : 2 ^ m ≤ 2 ^ 8 := Nat.pow_le_pow_right (by decide) hm8
      have hptb : pt < 256 := by omega
      obtain ⟨s, hs⟩ : ∃ s, 8 - r - m = s := ⟨_, rfl⟩
      have HS := Lib.hid hs
      have hsi : IntKind.i64.wrap (8 - (r : Int) - (m : Int)) = (s : Int) := by rw [IntWalk.i64_in _ (by omega)]; omega
      have hs8 : s ≤ 8 := by omega
      clear hpt hs hp256
      by_cases h8 : r = 0
      case' pos =>
        have h8b : ((r : Int) == 0) = true := by rw [h8]; rfl
        have hfull := toBytes_full bs1 (by rw [HR.out]; exact h8)
        have HFULL := Lib.hid hfull
        have hgne := own_ne HW1.out.own HBLK.out (by decide)
        have HGNE := Lib.hid hgne
        have hbaseW : base ≤ W.heap.size := Nat.le_trans hbase HSTEP.out.keep.1
        obtain ⟨q, hq⟩ : ∃ q, bs1.length / 8 = q := ⟨_, rfl⟩
        have HQ := Lib.hid hq
        have hlen2 : (toBytes bs1 ++ [0]).length = q + 1 := by rw [List.length_append, hfull.2.1, hq]; rfl
        have HL2 := Lib.hid hlen2
        clear hfull hgne h8 hq hlen2
        go_wp2_with (at_builtin; refine print_append_num (w0 := W) base rfl (.tmp 24) (.tmp 25) 37 5 .u8 1 rfl Try.underlying37 info_u8 (by decide) v1 (toBytes bs1) 0 rfl rfl HW1.out.own (Below.refl _ _) hbaseW (by rw [toBytes_length]; omega) ?_; rintro v2 w2 hown2 hb2 hg2 hat2; rw [HL2.out] at hown2; obtain ⟨gb, cap, hv2, hgb, hgl⟩ := hown2.form (by omega); subst hv2; have hc0' : w2.cell? ⟨g, 0, none⟩ = some v1 := hg2.cell (a := ⟨g, 0, none⟩) c0 HGNE.out; have hf0' : w2.frozen? ⟨g, 0, none⟩ = false := (World.frozen?_of_block (a := ⟨g, 0, none⟩) (hg2.block g (blk_lt HBLK.out) HGNE.out)).trans f0; have hc1' : w2.cell? ⟨g, 1, none⟩ = some (.int .i64 bs1.length) := hg2.cell (a := ⟨g, 1, none⟩) c1 HGNE.out)
        have hblk2 : w2.heap[g]? = some (.cells #[v1, .int .i64 bs1.length] 134 (0, 0)) := (hg2.block g (blk_lt HBLK.out) HGNE.out).trans HBLK.out
        have hblk3 := blk_set hblk2 0 (.slice (some ⟨gb, 0, none⟩) (q + 1) cap)
        have hne2 := own_ne hown2 hblk2 (by decide)
        have hown3 := own_setCell (p := ⟨g, 0, none⟩) hown2 hne2 (.slice (some ⟨gb, 0, none⟩) (q + 1) cap)
        have hst3 : WStep W (w2.setCell ⟨g, 0, none⟩ (.slice (some ⟨gb, 0, none⟩) (q + 1) cap)) g v1 (.slice (some ⟨gb, 0, none⟩) (q + 1) cap) :=
          ⟨hg2.os, hg2.tape, hg2.output, (KeepBut.of_grown hg2 g).set_ 0 _, hat2⟩
        obtain ⟨Wc, hWc⟩ : ∃ Wc, w2.setCell ⟨g, 0, none⟩ (.slice (some ⟨gb, 0, none⟩) (q + 1) cap) = Wc := ⟨_, rfl⟩
        rw [hWc] at hblk3 hown3 hst3 ⊢
        have hini : toBytes bs1 ++ [0] = (toBytes bs1).take q ++ [(byteAt bs1 q : Int)] := by rw [← HQ.out, HFULL.out.1, HFULL.out.2.2]; rfl
        rw [hini] at hown3
        have HB := Lib.hid hblk3; have HO := Lib.hid hown3; have HST := Lib.hid hst3
        clear hblk2 hblk3 hne2 hown3 hst3 hWc hini hown2 hc0' hf0' hc1' hat2 hg2 hb2 HFULL HGNE HL2 hgl
      case' neg =>
        have h8b : ((r : Int) == 0) = false := by rw [beq_eq_false_iff_ne]; omega
        have hprt := toBytes_part bs1 (by rw [HR.out]; exact h8)
        have HPRT := Lib.hid hprt
        obtain ⟨q, hq⟩ : ∃ q, bs1.length / 8 = q := ⟨_, rfl⟩
        have HQ := Lib.hid hq
        have hlen2 : (toBytes bs1).length = q + 1 := by rw [hprt.1, hq]
        have HL2 := Lib.hid hlen2
        have hown2 := HW1.out.own
        rw [hlen2] at hown2
        obtain ⟨gb, cap, hv2, hgb, hgl⟩ := hown2.form (by omega)
        have HV2 := Lib.hid hv2
        rw [hv2] at hown2 c0
        clear hprt h8 hq hlen2 hv2
        go_wp2
        obtain ⟨Wc, hWc⟩ : ∃ Wc, W = Wc := ⟨_, rfl⟩
        have hini : toBytes bs1 = (toBytes bs1).take q ++ [(byteAt bs1 q : Int)] := by rw [← HQ.out]; exact HPRT.out.2
        have hst3 := WStep.refl W g v1
        have hblk3 := HBLK.out
        rw [HV2.out] at hblk3
        rw [hini] at hown2
        rw [hWc]
        have HB : Hid (Wc.heap[g]? = some (.cells #[.slice (some ⟨gb, 0, none⟩) (q + 1) cap, .int .i64 bs1.length] 134 (0, 0))) := Lib.hid (by rw [← hWc]; exact hblk3)
        have HO : Hid (Wc.ownsRow base 5 1 (.slice (some ⟨gb, 0, none⟩) (q + 1) cap) (q + 1) (nums .u8 ((toBytes bs1).take q ++ [(byteAt bs1 q : Int)]))) := Lib.hid (by rw [← hWc]; exact hown2)
        have HST : Hid (WStep W Wc g v1 (.slice (some ⟨gb, 0, none⟩) (q + 1) cap)) := Lib.hid (by rw [← hWc, ← HV2.out]; exact hst3)
        clear hblk3 hst3 hWc hini hown2 HPRT HL2 hgl
      all_goals
        obtain ⟨B, hB⟩ : ∃ B, byteAt bs1 q = B := ⟨_, rfl⟩
        have hB256 : B < 256 := by rw [← hB]; exact byteAt_lt _ _
        have HBY := Lib.hid hB
        rw [hB] at HO
        have hil : ((toBytes bs1).take q).length = q := by rw [List.length_take, toBytes_length]; have := HQ.out; omega
        have d0 : Wc.cell? ⟨g, 0, none⟩ = some (.slice (some ⟨gb, 0, none⟩) (q + 1) cap) := blk_cell HB.out 0
        have d1 : Wc.cell? ⟨g, 1, none⟩ = some (.int .i64 bs1.length) := blk_cell HB.out 1
        have df1 := blk_frozen HB.out 1
        obtain ⟨dq, dfq⟩ := own_at HO.out (q : Int) (by omega) (by omega)
        have hrd : rd ((toBytes bs1).take q ++ [(B : Int)]) (q : Int) = (B : Int) := by
          unfold rd
          rw [Int.toNat_natCast, List.getD_eq_getElem?_getD, List.getElem?_append_right (by omega), hil]; simp
        rw [hrd, Int.toNat_natCast] at dq
        rw [Int.toNat_natCast] at dfq
        have HIL := Lib.hid hil
        have q1 : IntKind.i64.wrap (q : Int) = (q : Int) := IntWalk.i64_in _ (by have := HQ.out; omega)
        have q2 : (q : Int) < (q : Int) + 1 := by omega
        have q3 : (0 : Int) ≤ (q : Int) := by omega
        have q4 : (0 : Int) ≤ (s : Int) := by omega
        clear hil hrd hB c0 c1 f0
        go_quiet (fail)
        go_wp2
        obtain ⟨Wd, hWd⟩ : ∃ Wd, Wc.drewN nq = Wd := ⟨_, rfl⟩
        have hcd : ∀ a, Wd.cell? a = Wc.cell? a := fun a => by rw [← hWd]; rfl
        have hfd : ∀ a, Wd.frozen? a = Wc.frozen? a := fun a => by rw [← hWd]; rfl
        rw [← hcd] at d0 d1 dq
        rw [← hfd] at df1 dfq
        have HB2 : Hid (Wd.heap[g]? = some (.cells #[.slice (some ⟨gb, 0, none⟩) (q + 1) cap, .int .i64 bs1.length] 134 (0, 0))) := Lib.hid (by rw [← hWd]; exact HB.out)
        have HO2 : Hid (Wd.ownsRow base 5 1 (.slice (some ⟨gb, 0, none⟩) (q + 1) cap) (q + 1) (nums .u8 ((toBytes bs1).take q ++ [(B : Int)]))) := Lib.hid (by rw [← hWd]; exact HO.out)
        have HST2 : Hid (WStep W Wd g v1 (.slice (some ⟨gb, 0, none⟩) (q + 1) cap)) := Lib.hid (by rw [← hWd]; exact HST.out.trans (WStep.drew _ _ _ _))
        rw [hWd]
        have hgne : gb ≠ g := by
          have h := own_ne HO2.out HB2.out (by decide)
          intro he; apply h; simp [Value.ownBlock, he]
        have hor : bits BinOp.or IntKind.u8 (B : Int) (IntKind.u8.wrap ((pt : Int) * 2 ^ s)) = ((B ||| pt * 2 ^ s : Nat) : Int) := by
          have h1 : pt * 2 ^ s < 256 := by
            have h2 : pt * 2 ^ s < 2 ^ m * 2 ^ s := Nat.mul_lt_mul_of_pos_right hpt2 (Nat.pow_pos (by decide))
            rw [← Nat.pow_add] at h2
            have h3 : 2 ^ (m + s) ≤ 2 ^ 8 := Nat.pow_le_pow_right (by decide) (by have := HS.out; omega)
            omega
          have e : IntKind.u8.wrap ((pt : Int) * 2 ^ s) = ((pt * 2 ^ s : Nat) : Int) := by
            have e2 : ((pt : Int) * 2 ^ s) = ((pt * 2 ^ s : Nat) : Int) := by simp
            rw [e2]
            simp [IntKind.wrap, IntKind.bits, IntKind.signed]
            omega
          rw [e, u8_or_nat _ _ hB256 h1]
        obtain ⟨nb, hnb⟩ : ∃ nb, (B ||| pt * 2 ^ s) = nb := ⟨_, rfl⟩
        rw [hnb] at hor
        have HNB := Lib.hid hnb
        have hlen3 : (bs1.length : Int) + m ≤ 2000000000000 := by omega
        clear hcd hfd HB HO HST hWd hpart hmi hli x1 x2 hnb
        go_still_tail 19, (by kernel_rfl)
        go_wp2
        go_step3
        have hst := own_store HO2.out (q : Int) (nb : Int)
        rw [Int.toNat_natCast] at hst
        have hb3 := blk_far HB2.out (p := ⟨gb, q, none⟩) (Ne.symm hgne) (.int .u8 (nb : Int))
        have hb4 := blk_set hb3 1 (.int .i64 ((bs1.length : Int) + m))
        have hown4 := own_setCell (p := ⟨g, 1, none⟩) hst.1 (own_ne hst.1 hb3 (by decide)) (.int .i64 ((bs1.length : Int) + m))
        have hws : WStep Wd ((Wd.setCell ⟨gb, q, none⟩ (.int .u8 (nb : Int))).setCell ⟨g, 1, none⟩ (.int .i64 ((bs1.length : Int) + m))) g (.slice (some ⟨gb, 0, none⟩) (q + 1) cap) (.slice (some ⟨gb, 0, none⟩) (q + 1) cap) :=
          ⟨hst.2.os, hst.2.tape, hst.2.output, (KeepBut.of_grown (row := some gb) hst.2 g).set_ 1 _, .inl rfl⟩
        have hds : (bs1 ++ digits (n / 2 ^ l) m).length = bs1.length + m := by rw [List.length_append, digits_length]
        have hby := toBytes_step bs1 (digits (n / 2 ^ l) m) r m HR.out (digits_length _ _) hm1 hm2
        rw [HQ.out, HBY.out, numB_digits, HPT.out, HS.out, HNB.out] at hby
        have hset : ((toBytes bs1).take q ++ [(B : Int)]).set q (nb : Int) = (toBytes bs1).take q ++ [(nb : Int)] := by
          rw [List.set_append_right _ _ (by rw [HIL.out]; exact Nat.le_refl _), HIL.out, Nat.sub_self]; rfl
        rw [hset, ← hby] at hown4
        have hbl : (toBytes (bs1 ++ digits (n / 2 ^ l) m)).length = q + 1 := by rw [hby, List.length_append, HIL.out]; rfl
        refine ⟨rfl, HH.out l _ _ (by omega) ⟨rfl, rfl, rfl, rfl, rfl, by omega, .slice (some ⟨gb, 0, none⟩) (q + 1) cap, bs1 ++ digits (n / 2 ^ l) m, ⟨?_, ?_, HW1.out.ge⟩, ?_, ?_⟩⟩
        · rw [hds, Int.natCast_add]; refine blk_drew ?_; simpa using hb4
        · rw [hbl]; exact hown4
        · rw [List.append_assoc, ← digits_split, ← HBITS.out, show m + l = k + 1 from by omega]
        · exact HSTEP.out.trans (HST2.out.trans (hws.trans (WStep.drew _ _ _ 1)))
end Go.Proofs.Ytdpgojcljlfnbaa
