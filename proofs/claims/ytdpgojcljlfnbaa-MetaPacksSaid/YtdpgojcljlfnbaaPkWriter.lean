/- Contracts of functions that the law reaches: Writer, Writer2, Put, Same. -/
import Derived.Test.YtdpgojcljlfnbaaPkCompact
import Derived.Test.YtdpgojcljlfnbaaPkBitMath
import Derived.Laws.BitsLemmas
import Derived.Laws.BitsAllLaws
section
/- Contracts of bits.Writer: New, Put, Bytes, Len; fewer than 2^40 bits. -/
set_option linter.unusedVariables false
set_option linter.unusedSimpArgs false
set_option maxRecDepth 100000
namespace Go.Proofs.Ytdpgojcljlfnbaa
open Go.RowKit
open Go.Proofs.YtdpgojcljlfnbaaW.PrintWords

/-- A Writer at block g: v its bytes, bs its bits. -/
structure IsW (w : World) (base g : Nat) (v : Value) (bs : List Bool) : Prop where
  blk : w.heap[g]? = some (.cells #[v, .int .i64 bs.length] 134 (0, 0))
  own : w.ownsRow base 5 1 v (toBytes bs).length (nums .u8 (toBytes bs))
  ge : base ≤ g
/-- What a step with a Writer leaves as it was. -/
structure WStep (w w' : World) (g : Nat) (v v' : Value) : Prop where
  os : w'.os = w.os
  tape : w'.tape = w.tape
  output : w'.output = w.output
  keep : KeepBut w w' g v.ownBlock
  own : v'.ownBlock = v.ownBlock ∨ ∃ b, v'.ownBlock = some b ∧ w.heap.size ≤ b

/-- A width as it is held. -/
def wid (width : Int) : Nat := (max 0 (min width 64)).toNat
theorem wid_le (width : Int) : wid width ≤ 64 := by unfold wid; omega
theorem wid_of {width : Int} (h0 : 0 ≤ width) (h1 : width ≤ 64) : wid width = width.toNat := by unfold wid; omega
theorem WStep.refl (w : World) (g : Nat) (v : Value) : WStep w w g v v := ⟨rfl, rfl, rfl, KeepBut.refl _ _ _, .inl rfl⟩
theorem WStep.trans {w w1 w2 : World} {g : Nat} {v v1 v2 : Value} (h : WStep w w1 g v v1) (k : WStep w1 w2 g v1 v2) : WStep w w2 g v v2 := by
  refine ⟨k.os.trans h.os, k.tape.trans h.tape, k.output.trans h.output, ?_, ?_⟩
  · refine h.keep.trans k.keep ?_
    exact h.own
  · rcases k.own with h1 | ⟨b, h1, h2⟩
    · rw [h1]; exact h.own
    · exact .inr ⟨b, h1, Nat.le_trans h.keep.1 h2⟩
theorem WStep.below {w0 w w1 : World} {g : Nat} {v v1 : Value} (h : WStep w w1 g v v1) (hb : Below w0.heap.size w0 w) (hg : w0.heap.size ≤ g) (hv : ∀ k, v.ownBlock = some k → w0.heap.size ≤ k) : Below w0.heap.size w0 w1 :=
  ⟨h.os.trans hb.os, h.tape.trans hb.tape, h.output.trans hb.output, Nat.le_trans hb.size h.keep.1, fun k hk => (h.keep.2 k (Nat.lt_of_lt_of_le hk hb.size) (by omega) (fun he => by have := hv k he.symm; omega)).trans (hb.block k hk)⟩
theorem WStep.drew (w : World) (g : Nat) (v : Value) (n : Nat) : WStep w (w.drewN n) g v v := ⟨rfl, rfl, rfl, ⟨Nat.le_refl _, fun _ _ _ _ => rfl⟩, .inl rfl⟩
theorem WStep.of_below {w w1 : World} (h : Below w.heap.size w w1) (g : Nat) (v : Value) : WStep w w1 g v v := ⟨h.os, h.tape, h.output, KeepBut.of_below h g _, .inl rfl⟩
theorem IsW.below {w w1 : World} {base g : Nat} {v : Value} {bs : List Bool} (h : IsW w base g v bs) (hb : Below w.heap.size w w1) : IsW w1 base g v bs := ⟨blk_below h.blk hb, pw_own_below h.own hb, h.ge⟩

theorem fl76 {a : Act} {x0 x1 x6 : Value} (hs : a.tmps.size = 76) (hd : a.defers = []) (h0 : a.tmps.getD 0 undef = x0) (h1 : a.tmps.getD 1 undef = x1) (h6 : a.tmps.getD 6 undef = x6) : ∃ u : Nat → Value, a = { tmps := #[x0, x1, u 2, u 3, u 4, u 5, x6, u 7, u 8, u 9, u 10, u 11, u 12, u 13, u 14, u 15, u 16, u 17, u 18, u 19, u 20, u 21, u 22, u 23, u 24, u 25, u 26, u 27, u 28, u 29, u 30, u 31, u 32, u 33, u 34, u 35, u 36, u 37, u 38, u 39, u 40, u 41, u 42, u 43, u 44, u 45, u 46, u 47, u 48, u 49, u 50, u 51, u 52, u 53, u 54, u 55, u 56, u 57, u 58, u 59, u 60, u 61, u 62, u 63, u 64, u 65, u 66, u 67, u 68, u 69, u 70, u 71, u 72, u 73, u 74, u 75], defers := [] } := by
  subst h0
  subst h1
  subst h6
  refine ⟨fun i => a.tmps.getD i undef, ?_⟩
  obtain ⟨t, d⟩ := a
  cases hd
  exact congrArg (fun t => ({ tmps := t, defers := [] } : Act)) (frame_eq t 76 hs)

theorem part_of (n l m : Nat) (hm : m ≤ 8) : bits BinOp.and IntKind.u8 ((n : Int) / 2 ^ l % 256) ((2 ^ m - 1) % 256) = ((n / 2 ^ l % 2 ^ m : Nat) : Int) := by
  have h1 : (1 : Nat) ≤ 2 ^ m := Nat.one_le_two_pow
  have h2 : 2 ^ m ≤ 2 ^ 8 := Nat.pow_le_pow_right (by decide) hm
  have e1 : ((n : Int) / 2 ^ l % 256) = ((n / 2 ^ l % 256 : Nat) : Int) := by simp
  have e2 : ((2 : Int) ^ m - 1) % 256 = ((2 ^ m - 1 : Nat) : Int) := by
    have e : ((2 : Int) ^ m) = ((2 ^ m : Nat) : Int) := by simp
    rw [e]; omega
  rw [e1, e2, u8_and_nat _ _ (by omega) (by omega), Nat.and_two_pow_sub_one_eq_mod]
  have hd : (2 ^ m) ∣ 256 := by
    have := Nat.pow_dvd_pow 2 hm
    simpa using this
  rw [Nat.mod_mod_of_dvd _ hd]

set_option maxHeartbeats 2000000 in
theorem Put_any (g base : Nat) (v : Value) (bs : List Bool) (n : Nat) (width : Int) (w : World) (hW : IsW w base g v bs) (hn : n < 18446744073709551616) (hbs : bs.length ≤ 1099511627776) (hbase : base ≤ w.heap.size) :
    Calls Try.prog 73 #[.pointer (some ⟨g, 0, none⟩), .int .u64 n, .int .i64 width] w fun e w' => e = .returned (.tuple #[]) ∧ ∃ v', IsW w' base g v' (bs ++ digits n (wid width)) ∧ WStep w w' g v v' := by
  obtain ⟨K, hK⟩ : ∃ K, wid width = K := ⟨_, rfl⟩
  have hK' : (max 0 (min width 64)).toNat = K := hK
  have hK64 : K ≤ 64 := by omega
  have hKi : max 0 (min width 64) = (K : Int) := by omega
  have HKI := Lib.hid hKi
  rw [hK]
  clear hK hKi hK'
  go_enter Try.func73, Try.ntmps73
  refine wp_scope_goto 0 (fun k a W => a.tmps.size = 76 ∧ a.defers = [] ∧ a.tmps.getD 0 undef = .pointer (some ⟨g, 0, none⟩) ∧ a.tmps.getD 1 undef = .int .u64 n ∧ a.tmps.getD 6 undef = .int .i64 (k : Int) ∧ k ≤ 64 ∧ ∃ (v1 : Value) (bs1 : List Bool), IsW W base g v1 bs1 ∧ bs1 ++ digits n k = bs ++ digits n K ∧ WStep w W g v v1) rfl ?pass ?first
  case first =>
    intro H hgo
    have HGO := Lib.hid hgo; clear hgo
    go_wp2_with (go_at_call 114; refine (held_any _ _).mono ?_; rintro e w' ⟨rfl, rfl⟩; rw [HKI.out])
    go_step3
    go_step
    go_step
    exact HGO.out K _ _ ⟨rfl, rfl, rfl, rfl, rfl, hK64, v, bs, hW, rfl, WStep.refl _ _ _⟩
  case pass =>
    rintro k a W ⟨hs, hdf, ht0, ht1, ht6, hk64, v1, bs1, hW1, hbits, hstep⟩ H hH
    have HH := Lib.hid hH
    have HW1 := Lib.hid hW1; have HBITS := Lib.hid hbits; have HSTEP := Lib.hid hstep
    have hlen1 : bs1.length ≤ 1099511627776 + 64 := by
      have h := congrArg List.length hbits
      simp only [List.length_append, digits_length] at h
      omega
    clear hH hW1 hbits hstep
    obtain ⟨u, ha⟩ := fl76 hs hdf ht0 ht1 ht6
    subst ha
    clear hs hdf ht0 ht1 ht6
    cases k with
    | zero =>
      go_wp2
      simp only [Exit.jump]
      refine bodyPost_ret (v := .tuple #[]) (by simp [results, Try.results73, go_sem]) rfl ?_
      have h := HBITS.out
      simp only [digits, List.range_zero, List.map_nil, List.append_nil] at h
      refine ⟨rfl, v1, ?_, HSTEP.out⟩
      have h2 : bs ++ digits n K = bs1 := h.symm
      rw [h2]; exact HW1.out
    | succ k =>
      have hblk := HW1.out.blk
      have c0 : W.cell? ⟨g, 0, none⟩ = some v1 := blk_cell hblk 0
      have c1 : W.cell? ⟨g, 1, none⟩ = some (.int .i64 bs1.length) := blk_cell hblk 1
      have f0 := blk_frozen hblk 0
      have HBLK := Lib.hid hblk
      clear hblk
      obtain ⟨r, hr⟩ : ∃ r, bs1.length % 8 = r := ⟨_, rfl⟩
      have hr8 : r < 8 := by omega
      have hri : (bs1.length : Int) % 8 = (r : Int) := by omega
      have HR := Lib.hid hr
      clear hr
      obtain ⟨m, hm⟩ : ∃ m, min (8 - r) (k + 1) = m := ⟨_, rfl⟩
      obtain ⟨l, hl⟩ : ∃ l, k + 1 - m = l := ⟨_, rfl⟩
      have hm1 : 1 ≤ m := by omega
      have hm2 : m ≤ 8 - r := by omega
      have hm3 : m ≤ k + 1 := by omega
      have hmi : min (8 - (r : Int)) ((k : Int) + 1) = (m : Int) := by omega
      have hli : (k : Int) + 1 - (m : Int) = (l : Int) := by omega
      have hkl : k + 1 ≤ m + l := by omega
      have hkl2 : m + l ≤ k + 1 := by omega
      have hl63 : l ≤ 63 := by omega
      have hm8 : m ≤ 8 := by omega
      clear hm hl
      have x1 : (0 : Int) ≤ (l : Int) := by omega
      have x2 : (0 : Int) ≤ (m : Int) := by omega
      have hpart := part_of n l m hm8
      obtain ⟨pt, hpt⟩ : ∃ pt, n / 2 ^ l % 2 ^ m = pt := ⟨_, rfl⟩
      rw [hpt] at hpart
      have HPT := Lib.hid hpt
      have hpt2 : pt < 2 ^ m := by rw [← hpt]; exact Nat.mod_lt _ (Nat.pow_pos (by decide))
      have hp256 : 2 ^ m ≤ 2 ^ 8 := Nat.pow_le_pow_right (by decide) hm8
      have hptb : pt < 256 := by omega
      obtain ⟨s, hs⟩ : ∃ s, 8 - r - m = s := ⟨_, rfl⟩
      have HS := Lib.hid hs
      have hsi : IntKind.i64.wrap (8 - (r : Int) - (m : Int)) = (s : Int) := by rw [IntWalk.i64_in _ (by omega)]; omega
      have hs8 : s ≤ 8 := by omega
      clear hpt hs hp256
      by_cases h8 : r = 0
      case' pos =>
        have h8b : ((r : Int) == 0) = true := by rw [h8]; rfl
        have hfull := toBytes_full bs1 (by rw [HR.out]; exact h8)
        have HFULL := Lib.hid hfull
        have hgne := own_ne HW1.out.own HBLK.out (by decide)
        have HGNE := Lib.hid hgne
        have hbaseW : base ≤ W.heap.size := Nat.le_trans hbase HSTEP.out.keep.1
        obtain ⟨q, hq⟩ : ∃ q, bs1.length / 8 = q := ⟨_, rfl⟩
        have HQ := Lib.hid hq
        have hlen2 : (toBytes bs1 ++ [0]).length = q + 1 := by rw [List.length_append, hfull.2.1, hq]; rfl
        have HL2 := Lib.hid hlen2
        clear hfull hgne h8 hq hlen2
        go_wp2_with (at_builtin; refine print_append_num (w0 := W) base rfl (.tmp 24) (.tmp 25) 37 5 .u8 1 rfl Try.underlying37 info_u8 (by decide) v1 (toBytes bs1) 0 rfl rfl HW1.out.own (Below.refl _ _) hbaseW (by rw [toBytes_length]; omega) ?_; rintro v2 w2 hown2 hb2 hg2 hat2; rw [HL2.out] at hown2; obtain ⟨gb, cap, hv2, hgb, hgl⟩ := hown2.form (by omega); subst hv2; have hc0' : w2.cell? ⟨g, 0, none⟩ = some v1 := hg2.cell (a := ⟨g, 0, none⟩) c0 HGNE.out; have hf0' : w2.frozen? ⟨g, 0, none⟩ = false := (World.frozen?_of_block (a := ⟨g, 0, none⟩) (hg2.block g (blk_lt HBLK.out) HGNE.out)).trans f0; have hc1' : w2.cell? ⟨g, 1, none⟩ = some (.int .i64 bs1.length) := hg2.cell (a := ⟨g, 1, none⟩) c1 HGNE.out)
        have hblk2 : w2.heap[g]? = some (.cells #[v1, .int .i64 bs1.length] 134 (0, 0)) := (hg2.block g (blk_lt HBLK.out) HGNE.out).trans HBLK.out
        have hblk3 := blk_set hblk2 0 (.slice (some ⟨gb, 0, none⟩) (q + 1) cap)
        have hne2 := own_ne hown2 hblk2 (by decide)
        have hown3 := own_setCell (p := ⟨g, 0, none⟩) hown2 hne2 (.slice (some ⟨gb, 0, none⟩) (q + 1) cap)
        have hst3 : WStep W (w2.setCell ⟨g, 0, none⟩ (.slice (some ⟨gb, 0, none⟩) (q + 1) cap)) g v1 (.slice (some ⟨gb, 0, none⟩) (q + 1) cap) :=
          ⟨hg2.os, hg2.tape, hg2.output, (KeepBut.of_grown hg2 g).set_ 0 _, hat2⟩
        obtain ⟨Wc, hWc⟩ : ∃ Wc, w2.setCell ⟨g, 0, none⟩ (.slice (some ⟨gb, 0, none⟩) (q + 1) cap) = Wc := ⟨_, rfl⟩
        rw [hWc] at hblk3 hown3 hst3 ⊢
        have hini : toBytes bs1 ++ [0] = (toBytes bs1).take q ++ [(byteAt bs1 q : Int)] := by rw [← HQ.out, HFULL.out.1, HFULL.out.2.2]; rfl
        rw [hini] at hown3
        have HB := Lib.hid hblk3; have HO := Lib.hid hown3; have HST := Lib.hid hst3
        clear hblk2 hblk3 hne2 hown3 hst3 hWc hini hown2 hc0' hf0' hc1' hat2 hg2 hb2 HFULL HGNE HL2 hgl
      case' neg =>
        have h8b : ((r : Int) == 0) = false := by rw [beq_eq_false_iff_ne]; omega
        have hprt := toBytes_part bs1 (by rw [HR.out]; exact h8)
        have HPRT := Lib.hid hprt
        obtain ⟨q, hq⟩ : ∃ q, bs1.length / 8 = q := ⟨_, rfl⟩
        have HQ := Lib.hid hq
        have hlen2 : (toBytes bs1).length = q + 1 := by rw [hprt.1, hq]
        have HL2 := Lib.hid hlen2
        have hown2 := HW1.out.own
        rw [hlen2] at hown2
        obtain ⟨gb, cap, hv2, hgb, hgl⟩ := hown2.form (by omega)
        have HV2 := Lib.hid hv2
        rw [hv2] at hown2 c0
        clear hprt h8 hq hlen2 hv2
        go_wp2
        obtain ⟨Wc, hWc⟩ : ∃ Wc, W = Wc := ⟨_, rfl⟩
        have hini : toBytes bs1 = (toBytes bs1).take q ++ [(byteAt bs1 q : Int)] := by rw [← HQ.out]; exact HPRT.out.2
        have hst3 := WStep.refl W g v1
        have hblk3 := HBLK.out
        rw [HV2.out] at hblk3
        rw [hini] at hown2
        rw [hWc]
        have HB : Hid (Wc.heap[g]? = some (.cells #[.slice (some ⟨gb, 0, none⟩) (q + 1) cap, .int .i64 bs1.length] 134 (0, 0))) := Lib.hid (by rw [← hWc]; exact hblk3)
        have HO : Hid (Wc.ownsRow base 5 1 (.slice (some ⟨gb, 0, none⟩) (q + 1) cap) (q + 1) (nums .u8 ((toBytes bs1).take q ++ [(byteAt bs1 q : Int)]))) := Lib.hid (by rw [← hWc]; exact hown2)
        have HST : Hid (WStep W Wc g v1 (.slice (some ⟨gb, 0, none⟩) (q + 1) cap)) := Lib.hid (by rw [← hWc, ← HV2.out]; exact hst3)
        clear hblk3 hst3 hWc hini hown2 HPRT HL2 hgl
      all_goals
        obtain ⟨B, hB⟩ : ∃ B, byteAt bs1 q = B := ⟨_, rfl⟩
        have hB256 : B < 256 := by rw [← hB]; exact byteAt_lt _ _
        have HBY := Lib.hid hB
        rw [hB] at HO
        have hil : ((toBytes bs1).take q).length = q := by rw [List.length_take, toBytes_length]; have := HQ.out; omega
        have d0 : Wc.cell? ⟨g, 0, none⟩ = some (.slice (some ⟨gb, 0, none⟩) (q + 1) cap) := blk_cell HB.out 0
        have d1 : Wc.cell? ⟨g, 1, none⟩ = some (.int .i64 bs1.length) := blk_cell HB.out 1
        have df1 := blk_frozen HB.out 1
        obtain ⟨dq, dfq⟩ := own_at HO.out (q : Int) (by omega) (by omega)
        have hrd : rd ((toBytes bs1).take q ++ [(B : Int)]) (q : Int) = (B : Int) := by
          unfold rd
          rw [Int.toNat_natCast, List.getD_eq_getElem?_getD, List.getElem?_append_right (by omega), hil]; simp
        rw [hrd, Int.toNat_natCast] at dq
        rw [Int.toNat_natCast] at dfq
        have HIL := Lib.hid hil
        have q1 : IntKind.i64.wrap (q : Int) = (q : Int) := IntWalk.i64_in _ (by have := HQ.out; omega)
        have q2 : (q : Int) < (q : Int) + 1 := by omega
        have q3 : (0 : Int) ≤ (q : Int) := by omega
        have q4 : (0 : Int) ≤ (s : Int) := by omega
        clear hil hrd hB c0 c1 f0
        go_quiet (fail)
        go_wp2
        obtain ⟨Wd, hWd⟩ : ∃ Wd, Wc.drewN nq = Wd := ⟨_, rfl⟩
        have hcd : ∀ a, Wd.cell? a = Wc.cell? a := fun a => by rw [← hWd]; rfl
        have hfd : ∀ a, Wd.frozen? a = Wc.frozen? a := fun a => by rw [← hWd]; rfl
        rw [← hcd] at d0 d1 dq
        rw [← hfd] at df1 dfq
        have HB2 : Hid (Wd.heap[g]? = some (.cells #[.slice (some ⟨gb, 0, none⟩) (q + 1) cap, .int .i64 bs1.length] 134 (0, 0))) := Lib.hid (by rw [← hWd]; exact HB.out)
        have HO2 : Hid (Wd.ownsRow base 5 1 (.slice (some ⟨gb, 0, none⟩) (q + 1) cap) (q + 1) (nums .u8 ((toBytes bs1).take q ++ [(B : Int)]))) := Lib.hid (by rw [← hWd]; exact HO.out)
        have HST2 : Hid (WStep W Wd g v1 (.slice (some ⟨gb, 0, none⟩) (q + 1) cap)) := Lib.hid (by rw [← hWd]; exact HST.out.trans (WStep.drew _ _ _ _))
        rw [hWd]
        have hgne : gb ≠ g := by
          have h := own_ne HO2.out HB2.out (by decide)
          intro he; apply h; simp [Value.ownBlock, he]
        have hor : bits BinOp.or IntKind.u8 (B : Int) (IntKind.u8.wrap ((pt : Int) * 2 ^ s)) = ((B ||| pt * 2 ^ s : Nat) : Int) := by
          have h1 : pt * 2 ^ s < 256 := by
            have h2 : pt * 2 ^ s < 2 ^ m * 2 ^ s := Nat.mul_lt_mul_of_pos_right hpt2 (Nat.pow_pos (by decide))
            rw [← Nat.pow_add] at h2
            have h3 : 2 ^ (m + s) ≤ 2 ^ 8 := Nat.pow_le_pow_right (by decide) (by have := HS.out; omega)
            omega
          have e : IntKind.u8.wrap ((pt : Int) * 2 ^ s) = ((pt * 2 ^ s : Nat) : Int) := by
            have e2 : ((pt : Int) * 2 ^ s) = ((pt * 2 ^ s : Nat) : Int) := by simp
            rw [e2]
            simp [IntKind.wrap, IntKind.bits, IntKind.signed]
            omega
          rw [e, u8_or_nat _ _ hB256 h1]
        obtain ⟨nb, hnb⟩ : ∃ nb, (B ||| pt * 2 ^ s) = nb := ⟨_, rfl⟩
        rw [hnb] at hor
        have HNB := Lib.hid hnb
        have hlen3 : (bs1.length : Int) + m ≤ 2000000000000 := by omega
        clear hcd hfd HB HO HST hWd hpart hmi hli x1 x2 hnb
        go_still_tail 19, (by kernel_rfl)
        go_wp2
        go_step3
        have hst := own_store HO2.out (q : Int) (nb : Int)
        rw [Int.toNat_natCast] at hst
        have hb3 := blk_far HB2.out (p := ⟨gb, q, none⟩) (Ne.symm hgne) (.int .u8 (nb : Int))
        have hb4 := blk_set hb3 1 (.int .i64 ((bs1.length : Int) + m))
        have hown4 := own_setCell (p := ⟨g, 1, none⟩) hst.1 (own_ne hst.1 hb3 (by decide)) (.int .i64 ((bs1.length : Int) + m))
        have hws : WStep Wd ((Wd.setCell ⟨gb, q, none⟩ (.int .u8 (nb : Int))).setCell ⟨g, 1, none⟩ (.int .i64 ((bs1.length : Int) + m))) g (.slice (some ⟨gb, 0, none⟩) (q + 1) cap) (.slice (some ⟨gb, 0, none⟩) (q + 1) cap) :=
          ⟨hst.2.os, hst.2.tape, hst.2.output, (KeepBut.of_grown (row := some gb) hst.2 g).set_ 1 _, .inl rfl⟩
        have hds : (bs1 ++ digits (n / 2 ^ l) m).length = bs1.length + m := by rw [List.length_append, digits_length]
        have hby := toBytes_step bs1 (digits (n / 2 ^ l) m) r m HR.out (digits_length _ _) hm1 hm2
        rw [HQ.out, HBY.out, numB_digits, HPT.out, HS.out, HNB.out] at hby
        have hset : ((toBytes bs1).take q ++ [(B : Int)]).set q (nb : Int) = (toBytes bs1).take q ++ [(nb : Int)] := by
          rw [List.set_append_right _ _ (by rw [HIL.out]; exact Nat.le_refl _), HIL.out, Nat.sub_self]; rfl
        rw [hset, ← hby] at hown4
        have hbl : (toBytes (bs1 ++ digits (n / 2 ^ l) m)).length = q + 1 := by rw [hby, List.length_append, HIL.out]; rfl
        refine ⟨rfl, HH.out l _ _ (by omega) ⟨rfl, rfl, rfl, rfl, rfl, by omega, .slice (some ⟨gb, 0, none⟩) (q + 1) cap, bs1 ++ digits (n / 2 ^ l) m, ⟨?_, ?_, HW1.out.ge⟩, ?_, ?_⟩⟩
        · rw [hds, Int.natCast_add]; refine blk_drew ?_; simpa using hb4
        · rw [hbl]; exact hown4
        · rw [List.append_assoc, ← digits_split, ← HBITS.out, show m + l = k + 1 from by omega]
        · exact HSTEP.out.trans (HST2.out.trans (hws.trans (WStep.drew _ _ _ 1)))
end Go.Proofs.Ytdpgojcljlfnbaa
end
section
/- Contracts of bits.New, bytes.Clone, Writer.Bytes, Writer.Len, subframe.waste, subframe.all, subframe.typed; fewer than 2^40 bits. -/
set_option linter.unusedVariables false
set_option linter.unusedSimpArgs false
set_option maxRecDepth 100000
namespace Go.Proofs.Ytdpgojcljlfnbaa
open Go.RowKit
open Go.Proofs.YtdpgojcljlfnbaaW.PrintWords

theorem WStep.blk {w w' : World} {base g : Nat} {v v' : Value} {bs : List Bool} (hs : WStep w w' g v v') (hw : IsW w base g v bs) {i : Nat} {cs : Array Value} {t : TypeId} (hb : w.heap[i]? = some (.cells cs t (0, 0))) (h1 : t ≠ 134) (h2 : t ≠ 5) :
    w'.heap[i]? = some (.cells cs t (0, 0)) := by
  have hg : i ≠ g := blk_ne hb hw.blk h1
  have hv : some i ≠ v.ownBlock := own_ne hw.own hb (fun h => h2 h.symm)
  exact (hs.keep.2 i (blk_lt hb) hg hv).trans hb
theorem WStep.own_ {w w' : World} {base b g n sz : Nat} {e : TypeId} {v v' y : Value} {bs : List Bool} {ys : List Value} (hs : WStep w w' g v v') (hw : IsW w base g v bs) (hy : w.ownsRow b e sz y n ys) (h1 : e ≠ 134) (h2 : e ≠ 5) :
    w'.ownsRow b e sz y n ys := by
  refine own_move hy fun k hk => ?_
  obtain ⟨cells, hc⟩ := own_typed hy k hk
  rw [hs.blk hw hc h1 h2, hc]
theorem WStep.size {w w' : World} {g : Nat} {v v' : Value} (hs : WStep w w' g v v') : w.heap.size ≤ w'.heap.size := hs.keep.1

theorem New_any (w : World) : Calls Try.prog 43 #[] w fun e w' => e = .returned (.pointer (some ⟨w.heap.size, 0, none⟩)) ∧ IsW w' w.heap.size w.heap.size (.slice none 0 0) [] ∧ Below w.heap.size w w' := by
  go_enter Try.func43, Try.ntmps43
  go_wp2
  go_ret
  refine ⟨rfl, ⟨?_, own_nil _ _ _ _, Nat.le_refl _⟩, ba _ _⟩
  simpa using heap_alloc_new w _

theorem bytesClone_any (A : Option Addr) (n c : Nat) (xs : List Int) (w : World) (hr : ReadsInt w .u8 A n xs) (hn : n ≤ 140737488355328) :
    Calls Try.prog 57 #[.slice A n c] w fun e w' => ∃ v, e = .returned v ∧ OwnI w' w.heap.size 5 .u8 v xs ∧ Below w.heap.size w w' := by
  have HR := Lib.hid hr
  have qT : ∀ (w : World) (a : Option Addr) (n c n' c' : Nat), (binOp .eql 37 (.slice a n c) (.slice none n' c')).run Try.prog w = .ok (.bool a.isNone) w := fun w a n c n' c' => Lib.run_eql_slice_nil w _ _ a n c n' c' Try.underlying37
  have hl := hr.1
  rcases A with _ | ad
  · have h0 : n = 0 := by
      rcases Nat.eq_zero_or_pos n with h | h
      · exact h
      · obtain ⟨ad, h, _⟩ := hr.2.2 h; cases h
    subst h0
    obtain rfl : xs = [] := List.eq_nil_of_length_eq_zero hl
    clear hr hl
    go_enter Try.func57, Try.ntmps57
    go_wp2
    go_ret
    exact ⟨_, rfl, own_nil _ _ _ _, Below.refl _ _⟩
  clear hr
  go_enter Try.func57, Try.ntmps57
  go_wp2_with (at_builtin; refine print_append_row (w0 := w) w.heap.size rfl (.tmp 5) (.tmp 6) 37 5 .u8 1 rfl Try.underlying37 info_u8 (by decide) _ [] xs (some ad) n c rfl rfl (own_lit w _ 5 .u8 [] (Nat.le_refl _) (by simp)) (HR.out.below (below_alloc (Below.refl _ _) _)) (below_alloc (Below.refl _ _) _) (by simp) (by simp; omega) ?_; rintro v1 w1 hown hb hg hat)
  go_ret
  exact ⟨_, rfl, by unfold OwnI; simpa using hown, hb⟩

theorem Bytes_any (base g : Nat) (v : Value) (bs : List Bool) (w : World) (hW : IsW w base g v bs) (hbs : bs.length ≤ 1099511627776) :
    Calls Try.prog 46 #[.pointer (some ⟨g, 0, none⟩)] w fun e w' => ∃ v', e = .returned v' ∧ OwnI w' w.heap.size 5 .u8 v' (toBytes bs) ∧ Below w.heap.size w w' := by
  have c0 : w.cell? ⟨g, 0, none⟩ = some v := blk_cell hW.blk 0
  obtain ⟨A, c, rfl, hr⟩ := own_reads hW.own
  have HR := Lib.hid hr
  have hl := toBytes_length bs
  have HL := Lib.hid hl
  clear hr hW hl
  go_enter Try.func46, Try.ntmps46
  go_wp2_with (go_at_call 57; refine (bytesClone_any A _ c (toBytes bs) _ HR.out (by rw [HL.out]; omega)).mono ?_; rintro e w1 ⟨v', rfl, hown, hb⟩)
  go_ret
  exact ⟨_, rfl, hown, hb⟩

/-- The bits that tell how many are wasted. -/
def wasteBits (k : Nat) : List Bool := if k = 0 then [false] else true :: (List.replicate (k - 1) false ++ [true])
theorem digits_zero (k : Nat) : digits 0 k = List.replicate k false := by
  unfold digits
  apply List.ext_getElem?
  intro i
  by_cases h : i < k
  · rw [List.getElem?_map, List.getElem?_range h]; simp [List.getElem?_replicate, h]
  · rw [List.getElem?_eq_none (by simp; omega), List.getElem?_eq_none (by simp; omega)]

theorem waste_any (base g : Nat) (v : Value) (bs : List Bool) (many : Int) (w : World) (hW : IsW w base g v bs) (hbs : bs.length ≤ 1000000000000) (hbase : base ≤ w.heap.size) (h0 : 0 ≤ many) (h1 : many ≤ 64) :
    Calls Try.prog 75 #[.pointer (some ⟨g, 0, none⟩), .int .i64 many] w fun e w' => e = .returned (.tuple #[]) ∧ ∃ v', IsW w' base g v' (bs ++ wasteBits many.toNat) ∧ WStep w w' g v v' := by
  have HW := Lib.hid hW
  clear hW
  by_cases hm : many = 0
  · have HM := Lib.hid hm
    have hmb : (many == 0) = true := by rw [hm]; rfl
    clear hm
    go_enter Try.func75, Try.ntmps75
    go_wp2_with fail
    refine (Put_any g base v bs 0 1 w HW.out (by omega) (by omega) hbase).mono ?_
    rintro e w1 ⟨rfl, v1, hw1, hs1⟩
    go_wp2
    refine bodyPost_ret (v := .tuple #[]) (by simp [results, Try.results75, go_sem]) rfl ⟨rfl, v1, ?_, hs1⟩
    have e : wasteBits many.toNat = digits 0 (wid 1) := by rw [HM.out]; rfl
    rw [e]; exact hw1
  · have hmb : (many == 0) = false := by rw [beq_eq_false_iff_ne]; exact hm
    have HM := Lib.hid hm
    clear hm
    go_enter Try.func75, Try.ntmps75
    go_wp2_with fail
    refine (Put_any g base v bs 1 1 w HW.out (by omega) (by omega) hbase).mono ?_
    rintro e w1 ⟨rfl, v1, hw1, hs1⟩
    have HW1 := Lib.hid hw1; have HS1 := Lib.hid hs1
    clear hw1 hs1
    go_wp2_with fail
    refine (Put_any g base v1 _ 0 (many - 1) w1 HW1.out (by omega) (by rw [List.length_append, digits_length]; have := wid_le 1; omega) (Nat.le_trans hbase HS1.out.size)).mono ?_
    rintro e w2 ⟨rfl, v2, hw2, hs2⟩
    have HW2 := Lib.hid hw2; have HS2 := Lib.hid hs2
    clear hw2 hs2
    go_wp2_with fail
    refine (Put_any g base v2 _ 1 1 w2 HW2.out (by omega) (by rw [List.length_append, List.length_append, digits_length, digits_length]; have := wid_le 1; have := wid_le (many - 1); omega) (Nat.le_trans hbase (Nat.le_trans HS1.out.size HS2.out.size))).mono ?_
    rintro e w3 ⟨rfl, v3, hw3, hs3⟩
    go_wp2
    go_end0
    refine ⟨rfl, v3, ?_, HS1.out.trans (HS2.out.trans hs3)⟩
    have hmn : many ≠ 0 := HM.out
    have e : bs ++ wasteBits many.toNat = bs ++ digits 1 (wid 1) ++ digits 0 (wid (many - 1)) ++ digits 1 (wid 1) := by
      unfold wasteBits
      rw [if_neg (by omega), digits_zero, show wid (many - 1) = many.toNat - 1 from by unfold wid; omega, show wid 1 = 1 from rfl, show digits 1 1 = [true] from rfl]
      simp
    rw [e]; exact hw3

/-- A number as its lowest 64 bits. -/
def u64N (n : Int) : Nat := (n % 18446744073709551616).toNat
theorem u64N_lt (n : Int) : u64N n < 18446744073709551616 := by unfold u64N; omega
theorem u64N_wrap (n : Int) : IntKind.u64.wrap n = (u64N n : Int) := by rw [IntKind.wrap_u64]; unfold u64N; omega
/-- Numbers, each in so many bits. -/
def allBits (width : Nat) : List Int → List Bool
  | [] => []
  | x :: xs => digits (u64N x) width ++ allBits width xs
theorem allBits_append (width : Nat) (a b : List Int) : allBits width (a ++ b) = allBits width a ++ allBits width b := by
  induction a with
  | nil => rfl
  | cons x a ih => simp only [List.cons_append, allBits, ih, List.append_assoc]
theorem allBits_length (width : Nat) (a : List Int) : (allBits width a).length = width * a.length := by
  induction a with
  | nil => simp [allBits]
  | cons x a ih => simp only [allBits, List.length_append, digits_length, ih, List.length_cons, Nat.mul_add, Nat.mul_one]; omega

set_option maxHeartbeats 1000000 in
theorem all_any (base g : Nat) (v : Value) (bs : List Bool) (A : Option Addr) (n c : Nat) (xs : List Int) (width : Int) (w : World) (hW : IsW w base g v bs)
    (hr : ∀ W v', WStep w W g v v' → ReadsInt W .i64 A n xs) (hbs : bs.length ≤ 500000000000) (hn : n ≤ 1000000) (hbase : base ≤ w.heap.size) :
    Calls Try.prog 77 #[.pointer (some ⟨g, 0, none⟩), .slice A n c, .int .i64 width] w fun e w' => e = .returned (.tuple #[]) ∧ ∃ v', IsW w' base g v' (bs ++ allBits (wid width) xs) ∧ WStep w w' g v v' := by
  have HW := Lib.hid hW
  have HR := Lib.hid hr
  have HL := Lib.hid (hr w v (WStep.refl _ _ _)).1
  clear hW hr
  have hwid := wid_le width
  go_enter Try.func77, Try.ntmps77
  go_wp2
  go_loopw [10] (fun i wr => Hid (∃ (j : Nat) (v1 : Value), j ≤ n ∧ i = .int .i64 j ∧ IsW wr base g v1 (bs ++ allBits (wid width) (xs.take j)) ∧ WStep w wr g v v1)) (fun i _ => n - (intOf i).toNat)
  case atStart => exact Lib.hid ⟨0, v, Nat.zero_le _, rfl, by simpa [allBits] using HW.out, WStep.refl _ _ _⟩
  case round =>
    obtain ⟨j, v1, hj, rfl, hw1, hs1⟩ := hrel.out
    clear hrel
    have HW1 := Lib.hid hw1; have HS1 := Lib.hid hs1
    have hrj := HR.out wr v1 hs1
    clear hw1 hs1
    by_cases hlt : j < n
    · obtain ⟨ad, rfl, hc⟩ := rd_nat hrj hlt
      have hts := take_snoc_getD xs j (by rw [HL.out]; exact hlt)
      obtain ⟨x, hx⟩ : ∃ x, xs.getD j 0 = x := ⟨_, rfl⟩
      rw [hx] at hc hts
      have HTS := Lib.hid hts
      have hu := u64N_wrap x
      have hlen : (bs ++ allBits (wid width) (xs.take j)).length ≤ 1099511627776 := by
        rw [List.length_append, allBits_length, List.length_take, HL.out]
        have h1 : wid width * min j n ≤ 64 * 1000000 := Nat.mul_le_mul hwid (by omega)
        omega
      clear hts hx hrj
      go_wp2_with fail
      refine (Put_any g base v1 _ (u64N x) width wr HW1.out (u64N_lt _) hlen (Nat.le_trans hbase HS1.out.size)).mono ?_
      rintro e w2 ⟨rfl, v2, hw2, hs2⟩
      have HW2 := Lib.hid hw2; have HS2 := Lib.hid hs2
      clear hw2 hs2
      go_wp2
      go_roundw
      case rel =>
        refine Lib.hid ⟨j + 1, v2, by omega, by go_num, ?_, HS1.out.trans HS2.out⟩
        have h := HW2.out
        rw [HTS.out, allBits_append, ← List.append_assoc]
        simpa [allBits] using h
      case measure => simp [intOf]; omega
    · go_wp2
      go_end0
      refine ⟨rfl, v1, ?_, HS1.out⟩
      have h := HW1.out
      rwa [List.take_of_length_le (by rw [HL.out]; omega)] at h

def typedI (s : SubV) : Int := if s.kind = 2 then 8 + s.order else if s.kind = 3 then 31 + s.fs.length else s.kind
theorem typed_any (s : SubV) (w : World) (h1 : s.fs.length ≤ 1000000000) (h2 : -1000000000 ≤ s.order) (h3 : s.order ≤ 1000000000) : Calls Try.prog 74 #[subVal s] w fun e w' => e = .returned (.int .i64 (typedI s)) ∧ Below w.heap.size w w' := by
  by_cases k2 : s.kind = 2
  · have HV : Hid (typedI s = 8 + s.order) := Lib.hid (by unfold typedI; rw [if_pos k2])
    go_enter Try.func74, Try.ntmps74
    go_wp2
    go_ret
    exact ⟨ret_int HV.out.symm, ba _ _⟩
  · by_cases k3 : s.kind = 3
    · have HV : Hid (typedI s = 31 + s.fs.length) := Lib.hid (by unfold typedI; rw [if_neg k2, if_pos k3])
      go_enter Try.func74, Try.ntmps74
      go_wp2
      go_ret
      exact ⟨ret_int HV.out.symm, ba _ _⟩
    · have HV : Hid (typedI s = s.kind) := Lib.hid (by unfold typedI; rw [if_neg k2, if_neg k3])
      have k2b : (s.kind == 2) = false := by rw [beq_eq_false_iff_ne]; exact k2
      have k3b : (s.kind == 3) = false := by rw [beq_eq_false_iff_ne]; exact k3
      clear k2 k3
      go_enter Try.func74, Try.ntmps74
      go_wp2
      go_ret
      exact ⟨ret_int HV.out.symm, ba _ _⟩
end Go.Proofs.Ytdpgojcljlfnbaa
end
section
/- The contract of subframe.Put, of kinds without predictors. -/
set_option linter.unusedVariables false
set_option linter.unusedSimpArgs false
set_option maxRecDepth 100000
namespace Go.Proofs.Ytdpgojcljlfnbaa
open Go.RowKit
open Go.Proofs.YtdpgojcljlfnbaaW.PrintWords

/-- What a subframe without a predictor is, as bits. -/
def putBits (xs : List Int) (s : SubV) (depth : Int) : List Bool :=
  digits s.kind.toNat 7 ++ wasteBits s.wasted.toNat ++ allBits (wid (depth - s.wasted)) (if s.kind = 0 then (downI xs s.wasted).take 1 else downI xs s.wasted)

theorem SubBox.of_blk {w : World} {g : Nat} {s : SubV} {t : TypeId} (h : w.heap[g]? = some (.cells (subCells s) t (0, 0))) : SubBox w g s :=
  ⟨blk_cell h 0, blk_cell h 1, blk_cell h 2, blk_cell h 3, blk_cell h 4, blk_cell h 5, blk_cell h 6, blk_cell h 7, blk_cell h 8⟩

theorem typed01_any (s : SubV) (w : World) (k2 : s.kind ≠ 2) (k3 : s.kind ≠ 3) : Calls Try.prog 74 #[subVal s] w fun e w' => e = .returned (.int .i64 (typedI s)) ∧ Below w.heap.size w w' := by
  have HV : Hid (typedI s = s.kind) := Lib.hid (by unfold typedI; rw [if_neg k2, if_neg k3])
  have k2b : (s.kind == 2) = false := by rw [beq_eq_false_iff_ne]; exact k2
  have k3b : (s.kind == 3) = false := by rw [beq_eq_false_iff_ne]; exact k3
  clear k2 k3
  go_enter Try.func74, Try.ntmps74
  go_wp2
  go_ret
  exact ⟨ret_int HV.out.symm, ba _ _⟩

theorem wasteBits_length (k : Nat) : (wasteBits k).length = k + 1 := by
  unfold wasteBits
  split
  · subst_vars; rfl
  · simp; omega

theorem own_rd {w : World} {base n m c : Nat} {e : TypeId} {k : IntKind} {A : Option Addr} {xs : List Int} (h : w.ownsRow base e 1 (.slice A n c) m (nums k xs)) (hl : m = n) : ReadsInt w k A n xs := by
  obtain ⟨A', c', hv, hr⟩ := own_reads h
  injection hv with h1 h2 h3
  subst h1; subst hl; exact hr

set_option maxHeartbeats 2000000 in
theorem Put01_any (base g : Nat) (v : Value) (bs : List Bool) (A : Option Addr) (n c : Nat) (xs : List Int) (s : SubV) (depth : Int) (w : World) (hW : IsW w base g v bs)
    (hr : ∀ W v', WStep w W g v v' → ReadsInt W .i64 A n xs) (hs : SubR w s) (hnc : n ≤ c) (hbs : bs.length ≤ 400000000000) (hbase : base ≤ w.heap.size)
    (hk : s.kind = 0 ∨ s.kind = 1) (hok : (bitsI xs s depth).2 = 0) :
    Calls Try.prog 44 #[.pointer (some ⟨g, 0, none⟩), .slice A n c, subVal s, .int .i64 depth] w fun e w' => e = .returned (.int .i64 0) ∧ ∃ v', IsW w' base g v' (bs ++ putBits xs s depth) ∧ WStep w w' g v v' := by
  have hod : oddI xs s depth = 0 := by
    apply Classical.byContradiction
    intro h
    unfold bitsI at hok
    rw [if_pos h] at hok
    exact h hok
  obtain ⟨z1, z2, z3, z4, z5, z6, z7, z8, z9⟩ := odd_zero hod
  have HX : Hid (∀ x ∈ xs, -1099511627776 ≤ x ∧ x ≤ 1099511627776) := Lib.hid fun x hx => in_near (z9 x hx).1 z4
  have hr0 := hr w v (WStep.refl _ _ _)
  have HL := Lib.hid hr0.1
  have HR0 := Lib.hid hr0
  have HW := Lib.hid hW; have HR := Lib.hid hr; have HS := Lib.hid hs; have HK := Lib.hid hk
  have hty : typedI s = s.kind := by unfold typedI; rw [if_neg (by omega), if_neg (by omega)]
  have HTY := Lib.hid hty
  have hrest : restI xs s = ([], 0) := by unfold restI; rw [if_pos hk]
  have HREST := Lib.hid hrest
  have horder : orderI s = 0 := by unfold orderI; rw [if_neg (by omega), if_neg (by omega)]
  have HORD := Lib.hid horder
  have hfl : s.fs.length ≤ 9223372036854775807 := hs.f.2.1
  rw [HL.out] at z1 z2
  obtain ⟨bv, hbv⟩ : ∃ bv, bitsI xs s depth = bv := ⟨_, rfl⟩
  have hok2 : bv.2 = 0 := by rw [← hbv]; exact hok
  have HBV := Lib.hid hbv
  obtain ⟨W0, hW0⟩ : ∃ W0, w.alloc (Obj.cells (subCells s) 32) = W0 := ⟨_, rfl⟩
  have hblk0 : W0.heap[w.heap.size]? = some (.cells (subCells s) 32 (0, 0)) := by rw [← hW0]; simpa using heap_alloc_new w _
  have hb0 : Below w.heap.size w W0 := by rw [← hW0]; exact ba _ _
  have HB0 := Lib.hid hblk0
  obtain ⟨b1, b2⟩ := bv
  dsimp only at hok2
  subst hok2
  have HBX := Lib.hid (SubBox.of_blk HB0.out)
  obtain ⟨h00, h01, h02, h03, h04, h05, h06, h07, h08⟩ := HBX.out
  clear hW hr hs hk hr0 z9 hod hok hty hrest horder hbv hblk0
  go_enter Try.func44, Try.ntmps44
  go_wp2_with fail
  refine (Bits_any A n c xs s depth W0 (HR0.out.below hb0) (HS.out.below hb0) hnc).mono ?_
  rintro e w1 ⟨rfl, hb⟩
  rw [HBV.out]
  have HBX1 := Lib.hid (HBX.out.below hb)
  have hb1 := bt hb0 hb
  clear h00 h01 h02 h03 h04 h05 h06 h07 h08 HBX hW0
  obtain ⟨h00, h01, h02, h03, h04, h05, h06, h07, h08⟩ := HBX1.out
  go_wp2_with fail
  refine (Rest_any A n c xs s w1 (HR0.out.below hb1) (HS.out.below hb1) (by omega) HX.out).mono ?_
  rintro e w2 ⟨v2, rfl, hown2, hb'⟩
  rw [HREST.out] at hown2 ⊢
  obtain ⟨A2, c2, rfl, hrc2⟩ := own_reads hown2
  have HBX2 := Lib.hid (HBX1.out.below hb')
  have hb2 := bt hb1 hb'
  clear h00 h01 h02 h03 h04 h05 h06 h07 h08 HBX1 hrc2 hown2
  obtain ⟨h00, h01, h02, h03, h04, h05, h06, h07, h08⟩ := HBX2.out
  dsimp only [List.length_nil]
  go_wp2_with fail
  have HBD := Lib.hid (bd1 w2)
  have hC2 := (HBX2.out.below HBD.out).conj
  have HC2 := Lib.hid hC2
  clear h00 h01 h02 h03 h04 h05 h06 h07 h08
  go_region_held3 (fun w' => w'.cell? ⟨w.heap.size, 0, none⟩ = some (.int .i64 s.kind) ∧ w'.cell? ⟨w.heap.size, 1, none⟩ = some (.int .i64 s.wasted) ∧ w'.cell? ⟨w.heap.size, 2, none⟩ = some (.int .i64 s.order) ∧ w'.cell? ⟨w.heap.size, 3, none⟩ = some (.int .i64 s.shift) ∧ w'.cell? ⟨w.heap.size, 4, none⟩ = some (.int .i64 s.prec) ∧ w'.cell? ⟨w.heap.size, 5, none⟩ = some (.slice s.FA s.fs.length s.fc) ∧ w'.cell? ⟨w.heap.size, 6, none⟩ = some (.bool s.wide) ∧ w'.cell? ⟨w.heap.size, 7, none⟩ = some (.int .i64 s.po) ∧ w'.cell? ⟨w.heap.size, 8, none⟩ = some (.slice s.PA s.ps.length s.pc)) (first | (with_reducible exact HC2.out) | (with_reducible assumption)) (first | (((with_reducible refine (New_any w2.drew).mono ?_); (rintro e w5 ⟨rfl, hw5, hb5⟩); have hk5 := ((HBX2.out.below HBD.out).below hb5).conj)) | (((with_reducible refine (order_any s _ hfl).mono ?_); (rintro e w6 ⟨rfl, hb6⟩); rw [HORD.out]; have hk6 := (((HBX2.out.below HBD.out).below hb5).below hb6).conj)))
  clear hC2 hk5 hk6
  try clear hHeld
  have hb6' := bt hb2 (bt HBD.out (bt hb5 hb6))
  have HBX6 := Lib.hid (((HBX2.out.below HBD.out).below hb5).below hb6)
  have hbl6 : w6.heap[w.heap.size]? = some (.cells (subCells s) 32 (0, 0)) := blk_below (blk_below (blk_below (blk_below (blk_below HB0.out hb) hb') HBD.out) hb5) hb6
  have HBL6 := Lib.hid hbl6
  have HW6 := Lib.hid (HW.out.below hb6')
  have HST6 := Lib.hid (WStep.of_below hb6' g v)
  have hsz6 : base ≤ w6.heap.size := Nat.le_trans hbase hb6'.size
  obtain ⟨h00, h01, h02, h03, h04, h05, h06, h07, h08⟩ := HBX6.out
  obtain ⟨kn, hkn⟩ : ∃ kn : Nat, s.kind.toNat = kn := ⟨_, rfl⟩
  have HKN := Lib.hid hkn
  have huk : IntKind.u64.wrap s.kind = (kn : Int) := by rw [IntKind.wrap_u64]; omega
  have hkn2 : kn ≤ 1 := by have := HK.out; omega
  clear hkn hw5 hbl6 hb hb' hb5 hb6 hb0 hb1 hb2 HC2 HBD
  go_wp2_with fail
  refine (typed01_any s w6 (by have := HK.out; omega) (by have := HK.out; omega)).mono ?_
  rintro e w7 ⟨rfl, hb7⟩
  rw [HTY.out]
  have HW7 := Lib.hid (HW6.out.below hb7)
  have HBL7 := Lib.hid (blk_below HBL6.out hb7)
  have HST7 := Lib.hid (HST6.out.trans (WStep.of_below hb7 g v))
  clear h00 h01 h02 h03 h04 h05 h06 h07 h08 HBX6
  have HBX7 := Lib.hid (SubBox.of_blk HBL7.out)
  obtain ⟨h00, h01, h02, h03, h04, h05, h06, h07, h08⟩ := HBX7.out
  go_wp2_with fail
  refine (Put_any g base v bs kn 7 w7 HW7.out (by omega) (by omega) (Nat.le_trans hsz6 hb7.size)).mono ?_
  rintro e w8 ⟨rfl, v8, hw8, hs8⟩
  have HBL8 := Lib.hid (hs8.blk HW7.out HBL7.out (by decide) (by decide))
  have HW8 := Lib.hid hw8
  have HST8 := Lib.hid (HST7.out.trans hs8)
  have hsz8 := Nat.le_trans (Nat.le_trans hsz6 hb7.size) hs8.size
  clear h00 h01 h02 h03 h04 h05 h06 h07 h08 HBX7 hw8 hs8 hb7
  have HBX8 := Lib.hid (SubBox.of_blk HBL8.out)
  obtain ⟨h00, h01, h02, h03, h04, h05, h06, h07, h08⟩ := HBX8.out
  go_wp2_with fail
  refine (waste_any base g v8 _ s.wasted w8 HW8.out (by rw [List.length_append, digits_length]; have := wid_le 7; omega) hsz8 z7 (by omega)).mono ?_
  rintro e w9 ⟨rfl, v9, hw9, hs9⟩
  have HBL9 := Lib.hid (hs9.blk HW8.out HBL8.out (by decide) (by decide))
  have HW9 := Lib.hid hw9
  have HST9 := Lib.hid (HST8.out.trans hs9)
  have hsz9 := Nat.le_trans hsz8 hs9.size
  clear h00 h01 h02 h03 h04 h05 h06 h07 h08 HBX8 hw9 hs9
  have HBX9 := Lib.hid (SubBox.of_blk HBL9.out)
  obtain ⟨h00, h01, h02, h03, h04, h05, h06, h07, h08⟩ := HBX9.out
  have HR9 := Lib.hid (HR.out w9 v9 HST9.out)
  go_wp2_with fail
  have HBD := Lib.hid (bd1 w9)
  have hC9 := (HBX9.out.below HBD.out).conj
  have HC9 := Lib.hid hC9
  have e2 : IntKind.i64.wrap (depth - s.wasted) = depth - s.wasted := IntWalk.i64_in _ (by omega)
  clear h00 h01 h02 h03 h04 h05 h06 h07 h08
  go_region_held3 (fun w' => w'.cell? ⟨w.heap.size, 0, none⟩ = some (.int .i64 s.kind) ∧ w'.cell? ⟨w.heap.size, 1, none⟩ = some (.int .i64 s.wasted) ∧ w'.cell? ⟨w.heap.size, 2, none⟩ = some (.int .i64 s.order) ∧ w'.cell? ⟨w.heap.size, 3, none⟩ = some (.int .i64 s.shift) ∧ w'.cell? ⟨w.heap.size, 4, none⟩ = some (.int .i64 s.prec) ∧ w'.cell? ⟨w.heap.size, 5, none⟩ = some (.slice s.FA s.fs.length s.fc) ∧ w'.cell? ⟨w.heap.size, 6, none⟩ = some (.bool s.wide) ∧ w'.cell? ⟨w.heap.size, 7, none⟩ = some (.int .i64 s.po) ∧ w'.cell? ⟨w.heap.size, 8, none⟩ = some (.slice s.PA s.ps.length s.pc)) (first | (with_reducible exact HC9.out) | (with_reducible assumption)) (((with_reducible refine (down_any A n c xs s.wasted _ (HR9.out.below HBD.out) (by omega)).mono ?_); (rintro e w10 ⟨v10, rfl, hown10, hb10⟩); have hk10 := ((HBX9.out.below HBD.out).below hb10).conj))
  clear hC9 hk10
  try clear hHeld
  have HW10 := Lib.hid ((HW9.out.below HBD.out).below hb10)
  have HST10 := Lib.hid ((HST9.out.trans (WStep.of_below HBD.out g v9)).trans (WStep.of_below hb10 g v9))
  have HBL10 := Lib.hid (blk_below (blk_below HBL9.out HBD.out) hb10)
  have hsz10 := Nat.le_trans (Nat.le_trans hsz9 HBD.out.size) hb10.size
  have HBX10 := Lib.hid (SubBox.of_blk HBL10.out)
  obtain ⟨h00, h01, h02, h03, h04, h05, h06, h07, h08⟩ := HBX10.out
  obtain ⟨A10, c10, rfl, hrc10⟩ := own_reads hown10
  have hcap10 := own_cap hown10
  have hdl : (downI xs s.wasted).length = n := by rw [← HL.out]; simp [downI]
  have HDL := Lib.hid hdl
  rw [hdl] at hcap10 hown10 ⊢
  have HO10 := Lib.hid hown10
  clear hrc10 hown10 hdl e2
  have hwd : wid 7 = 7 := rfl
  have hpb : putBits xs s depth = digits s.kind.toNat 7 ++ wasteBits s.wasted.toNat ++ allBits (wid (depth - s.wasted)) (if s.kind = 0 then (downI xs s.wasted).take 1 else downI xs s.wasted) := rfl
  rw [HKN.out] at hpb
  have HPB := Lib.hid hpb
  clear hwd hpb
  have hlen9 : (bs ++ digits kn (wid 7) ++ wasteBits s.wasted.toNat).length ≤ 500000000000 := by
    rw [List.length_append, List.length_append, digits_length, wasteBits_length]
    have := wid_le 7; omega
  rcases HK.out with k0 | k1
  · have k0b : (s.kind == 0) = true := by rw [k0]; rfl
    have hpb : putBits xs s depth = digits kn 7 ++ wasteBits s.wasted.toNat ++ allBits (wid (depth - s.wasted)) ((downI xs s.wasted).take 1) := by rw [HPB.out, if_pos k0]
    have HPB2 := Lib.hid hpb
    have hto := run_cut_to Try.underlying27 info_int A10 n c10 1 z1 hcap10
    clear k0 hpb
    go_wp2_with fail
    refine (all_any base g v9 _ A10 1 c10 ((downI xs s.wasted).take 1) (depth - s.wasted) w10 HW10.out (fun W v' hst => (own_rd (hst.own_ HW10.out HO10.out (by decide) (by decide)) HDL.out).take_ 1 z1) hlen9 (by omega) hsz10).mono ?_
    rintro e w11 ⟨rfl, v11, hw11, hs11⟩
    have HW11 := Lib.hid hw11; have HS11 := Lib.hid hs11
    clear hw11 hs11 h00 h01 h02 h03 h04 h05 h06 h07 h08
    go_wp2
    go_ret
    refine ⟨rfl, v11, ?_, HST10.out.trans HS11.out⟩
    rw [HPB2.out, ← List.append_assoc, ← List.append_assoc]
    exact HW11.out
  · have k1b : (s.kind == 1) = true := by rw [k1]; rfl
    have k0b : (s.kind == 0) = false := by rw [k1]; rfl
    have hpb : putBits xs s depth = digits kn 7 ++ wasteBits s.wasted.toNat ++ allBits (wid (depth - s.wasted)) (downI xs s.wasted) := by rw [HPB.out, if_neg (by omega)]
    have HPB2 := Lib.hid hpb
    clear k1 hpb
    go_wp2_with fail
    refine (all_any base g v9 _ A10 n c10 (downI xs s.wasted) (depth - s.wasted) w10 HW10.out (fun W v' hst => own_rd (hst.own_ HW10.out HO10.out (by decide) (by decide)) HDL.out) hlen9 (by omega) hsz10).mono ?_
    rintro e w11 ⟨rfl, v11, hw11, hs11⟩
    have HW11 := Lib.hid hw11; have HS11 := Lib.hid hs11
    clear hw11 hs11 h00 h01 h02 h03 h04 h05 h06 h07 h08
    go_wp2
    go_ret
    refine ⟨rfl, v11, ?_, HST10.out.trans HS11.out⟩
    rw [HPB2.out, ← List.append_assoc, ← List.append_assoc]
    exact HW11.out
end Go.Proofs.Ytdpgojcljlfnbaa
end
section
/- Contracts of serinetteref01.Same and Ints. -/
set_option linter.unusedVariables false
set_option linter.unusedSimpArgs false
set_option maxRecDepth 100000
namespace Go.Proofs.Ytdpgojcljlfnbaa
open Go.RowKit
open Go.Proofs.YtdpgojcljlfnbaaW.PrintWords

theorem take_eq_succ (xs ys : List Int) (k : Nat) (h1 : k < xs.length) (h2 : k < ys.length) : (xs.take (k + 1) = ys.take (k + 1)) ↔ (xs.take k = ys.take k ∧ xs.getD k 0 = ys.getD k 0) := by
  rw [List.take_succ_eq_append_getElem h1, List.take_succ_eq_append_getElem h2]
  constructor
  · intro h
    have h3 := List.append_inj h (by simp; omega)
    refine ⟨h3.1, ?_⟩
    have h4 := h3.2
    simp only [List.cons.injEq, and_true] at h4
    simpa [List.getD_eq_getElem?_getD, List.getElem?_eq_getElem h1, List.getElem?_eq_getElem h2] using h4
  · intro ⟨h3, h4⟩
    have h5 : xs[k] = ys[k] := by simpa [List.getD_eq_getElem?_getD, List.getElem?_eq_getElem h1, List.getElem?_eq_getElem h2] using h4
    rw [h3, h5]

theorem Same_any (A : Option Addr) (n c : Nat) (xs : List Int) (B : Option Addr) (m d : Nat) (ys : List Int) (w : World) (hx : ReadsInt w .u8 A n xs) (hy : ReadsInt w .u8 B m ys) :
    Calls Try.prog 19 #[.slice A n c, .slice B m d] w fun e w' => e = .returned (.bool (decide (xs = ys))) ∧ Below w.heap.size w w' := by
  have HX := Lib.hid hx; have HY := Lib.hid hy
  have hl := hx.1; have hl2 := hy.1
  have hm1 := hx.2.1
  clear hx hy
  subst hl; subst hl2
  by_cases hlen : xs.length = ys.length
  · have HLEN := Lib.hid hlen
    have hlb : ((xs.length : Int) != (ys.length : Int)) = false := by rw [hlen]; simp
    have h1 : xs.length ≤ ys.length := by omega
    clear hlen
    go_enter Try.func19, Try.ntmps19
    go_wp2
    go_loopw [5] (fun i wr => Hid (∃ j : Nat, j ≤ xs.length ∧ i = .int .i64 j ∧ xs.take j = ys.take j ∧ Below w.heap.size w wr)) (fun i _ => xs.length - (intOf i).toNat)
    case atStart => exact Lib.hid ⟨0, Nat.zero_le _, rfl, by simp, Below.refl _ _⟩
    case round =>
      obtain ⟨j, hj, rfl, heq, hb⟩ := hrel.out
      clear hrel
      have HEQ := Lib.hid heq
      clear heq
      by_cases hlt : j < xs.length
      · obtain ⟨ax, rfl, hcx⟩ := rd_nat (HX.out.below hb) hlt
        obtain ⟨ay, rfl, hcy⟩ := rd_nat (HY.out.below hb) (show j < ys.length by omega)
        have hlt2 : j < ys.length := by omega
        have hts := take_eq_succ xs ys j hlt hlt2
        obtain ⟨x, hx⟩ : ∃ x, xs.getD j 0 = x := ⟨_, rfl⟩
        obtain ⟨y, hy⟩ : ∃ y, ys.getD j 0 = y := ⟨_, rfl⟩
        rw [hx] at hcx hts
        rw [hy] at hcy hts
        have HTS := Lib.hid hts
        clear hts hx hy
        by_cases hxy : x = y
        · have HXY := Lib.hid hxy
          have hne : (x != y) = false := by rw [hxy]; simp
          clear hxy
          go_wp2
          go_quiet (fail)
          go_wp2
          go_roundw
          case rel => exact Lib.hid ⟨j + 1, by omega, by go_num, HTS.out.2 ⟨HEQ.out, HXY.out⟩, by first | exact hb | exact bt hb (bd _ _)⟩
          case measure => simp [intOf]; omega
        · have HV : Hid (decide (xs = ys) = false) := Lib.hid (decide_eq_false fun h => hxy (HTS.out.1 (by rw [h])).2)
          have hne : (x != y) = true := by rw [bne_iff_ne]; exact hxy
          clear hxy
          go_wp2
          go_quiet (fail)
          go_wp2
          go_ret
          exact ⟨ret_bool HV.out.symm, by first | exact hb | exact bt hb (bd _ _)⟩
      · have HV : Hid (decide (xs = ys) = true) := Lib.hid (decide_eq_true (by
          have h := HEQ.out
          rwa [List.take_of_length_le (by omega), List.take_of_length_le (by have := HLEN.out; omega)] at h))
        go_wp2
        go_ret
        exact ⟨ret_bool HV.out.symm, hb⟩
  · have HV : Hid (decide (xs = ys) = false) := Lib.hid (decide_eq_false fun h => hlen (by rw [h]))
    have hlb : ((xs.length : Int) != (ys.length : Int)) = true := by rw [bne_iff_ne]; omega
    clear hlen
    go_enter Try.func19, Try.ntmps19
    go_wp2
    go_ret
    exact ⟨ret_bool HV.out.symm, Below.refl _ _⟩

theorem Ints_any (A : Option Addr) (n c : Nat) (xs : List Int) (B : Option Addr) (m d : Nat) (ys : List Int) (w : World) (hx : ReadsInt w .i64 A n xs) (hy : ReadsInt w .i64 B m ys) :
    Calls Try.prog 48 #[.slice A n c, .slice B m d] w fun e w' => e = .returned (.bool (decide (xs = ys))) ∧ Below w.heap.size w w' := by
  have HX := Lib.hid hx; have HY := Lib.hid hy
  have hl := hx.1; have hl2 := hy.1
  have hm1 := hx.2.1
  clear hx hy
  subst hl; subst hl2
  by_cases hlen : xs.length = ys.length
  · have HLEN := Lib.hid hlen
    have hlb : ((xs.length : Int) != (ys.length : Int)) = false := by rw [hlen]; simp
    have h1 : xs.length ≤ ys.length := by omega
    clear hlen
    go_enter Try.func48, Try.ntmps48
    go_wp2
    go_loopw [5] (fun i wr => Hid (∃ j : Nat, j ≤ xs.length ∧ i = .int .i64 j ∧ xs.take j = ys.take j ∧ Below w.heap.size w wr)) (fun i _ => xs.length - (intOf i).toNat)
    case atStart => exact Lib.hid ⟨0, Nat.zero_le _, rfl, by simp, Below.refl _ _⟩
    case round =>
      obtain ⟨j, hj, rfl, heq, hb⟩ := hrel.out
      clear hrel
      have HEQ := Lib.hid heq
      clear heq
      by_cases hlt : j < xs.length
      · obtain ⟨ax, rfl, hcx⟩ := rd_nat (HX.out.below hb) hlt
        obtain ⟨ay, rfl, hcy⟩ := rd_nat (HY.out.below hb) (show j < ys.length by omega)
        have hlt2 : j < ys.length := by omega
        have hts := take_eq_succ xs ys j hlt hlt2
        obtain ⟨x, hx⟩ : ∃ x, xs.getD j 0 = x := ⟨_, rfl⟩
        obtain ⟨y, hy⟩ : ∃ y, ys.getD j 0 = y := ⟨_, rfl⟩
        rw [hx] at hcx hts
        rw [hy] at hcy hts
        have HTS := Lib.hid hts
        clear hts hx hy
        by_cases hxy : x = y
        · have HXY := Lib.hid hxy
          have hne : (x != y) = false := by rw [hxy]; simp
          clear hxy
          go_wp2
          go_quiet (fail)
          go_wp2
          go_roundw
          case rel => exact Lib.hid ⟨j + 1, by omega, by go_num, HTS.out.2 ⟨HEQ.out, HXY.out⟩, by first | exact hb | exact bt hb (bd _ _)⟩
          case measure => simp [intOf]; omega
        · have HV : Hid (decide (xs = ys) = false) := Lib.hid (decide_eq_false fun h => hxy (HTS.out.1 (by rw [h])).2)
          have hne : (x != y) = true := by rw [bne_iff_ne]; exact hxy
          clear hxy
          go_wp2
          go_quiet (fail)
          go_wp2
          go_ret
          exact ⟨ret_bool HV.out.symm, by first | exact hb | exact bt hb (bd _ _)⟩
      · have HV : Hid (decide (xs = ys) = true) := Lib.hid (decide_eq_true (by
          have h := HEQ.out
          rwa [List.take_of_length_le (by omega), List.take_of_length_le (by have := HLEN.out; omega)] at h))
        go_wp2
        go_ret
        exact ⟨ret_bool HV.out.symm, hb⟩
  · have HV : Hid (decide (xs = ys) = false) := Lib.hid (decide_eq_false fun h => hlen (by rw [h]))
    have hlb : ((xs.length : Int) != (ys.length : Int)) = true := by rw [bne_iff_ne]; omega
    clear hlen
    go_enter Try.func48, Try.ntmps48
    go_wp2
    go_ret
    exact ⟨ret_bool HV.out.symm, Below.refl _ _⟩
end Go.Proofs.Ytdpgojcljlfnbaa
end
